/-
  Walks: the law BddCanonical.
-/
import Derived.Test.YtifompekiockmaaAgrees
import Derived.Test.YtifompekiockmaaBank
namespace Go.Proofs.Ytifompekiockmaa
open Go.RowKit

set_option maxRecDepth 100000 in
set_option maxHeartbeats 2000000 in
theorem BddCanonical_walk (x : Int) (l : List Stp) {sv : Value} {w : World} (hs : StepsAt w sv l) :
    Calls Try.prog 6 #[.int .i64 x, sv] w fun e w' => e = .returned (.bool true) ∧ Kp No w w' := by
  obtain ⟨hn1, hn6⟩ := nv_le x
  have VA := Lib.hid (fun w => Vars_ok x w)
  generalize nv x = n at *
  have NEW := Lib.hid (fun (w0 : World) (k0 : Kp No w w0) => New_own (n := n) (by omega) k0)
  have ST := Lib.hid hs
  obtain ⟨ao, c, rfl, _⟩ := hs
  by_cases h40 : l.length ≤ 40
  · have hl : ¬ (40 : Int) < l.length := by omega
    go_enter Try.func6, Try.ntmps6
    go_wp2_with fail
    refine (awake_ok w).mono ?_
    rintro e w0 ⟨rfl, k0⟩
    have K0 := Lib.hid k0
    clear k0
    go_wp2_with fail
    refine (VA.out w0).mono ?_
    rintro e w0' ⟨rfl, rfl⟩
    go_wp2_with fail
    refine (NEW.out w0 K0.out).mono ?_
    rintro e w1 ⟨p, L1, rfl, s1, k1⟩
    have S1 := Lib.hid s1
    have K1 := Lib.hid k1
    clear s1 k1 NEW
    go_wp2_with fail
    refine (Run_own hn6 hn1 S1.out h40 ST.out).mono ?_
    rintro e w2 ⟨fv, tv, L2, tvs, rfl, fr⟩
    obtain ⟨rp, hFl⟩ := run_rp hn1 hn6 l h40
    generalize runM (Mgr.new n) n l = X at *
    generalize runF n l = Fs at *
    obtain ⟨M, fs⟩ := X
    simp only at fr rp
    have hpos := rp.pos
    have hfl : fs.length ≤ 100 := by rw [← fr.flen]; omega
    obtain ⟨gf, cf, gt, ct, rfl, rfl, lf, lt⟩ := fr.forms (by omega)
    have FR := Lib.hid fr
    have BK := Lib.hid (Bk.of_rp rp)
    clear fr rp hFl
    go_wp2_with fail
    go_loopg [8] fs.length (fun gk s8 wr => LpR w2 fs.length gk s8 wr)
    case atStart => exact ⟨0, by omega, rfl, Kp.refl _ _⟩
    case round =>
      obtain ⟨k, hk, rfl, kp⟩ := hrel
      obtain ⟨wo, rfl⟩ : ∃ wo : World, wo = wr := ⟨_, rfl⟩
      by_cases hlt : k < fs.length
      · have HK := Lib.hid hk
        have KP := Lib.hid kp
        have hlti : (k : Int) < fs.length := by omega
        clear hk kp
        go_wp2_with fail
        go_loopg [9] k (fun gk s9 wr => LpR wo k gk s9 wr)
        case atStart => exact ⟨0, by omega, rfl, Kp.refl _ _⟩
        case round =>
          obtain ⟨j, hj, rfl, kpj⟩ := hrel
          by_cases hjt : j < k
          · have hjl : j < fs.length := by omega
            have fr := FR.out.no (KP.out.trans_no kpj)
            have hfl2 := fr.flen
            have c1 := fr.cellF hlt
            have c2 := fr.cellF hjl
            have c3 := fr.cellT hlt
            have c4 := fr.cellT hjl
            have hj1 : (j : Int) < k := by omega
            have hj2 : (j : Int) < fs.length := by omega
            have EQ : Hid (∀ m, Calls Try.prog 34 #[tvs.getD k (.bool false), tvs.getD j (.bool false)] (wr.drewN m) fun e w' => e = .returned (.bool (fs.getD k 0 == fs.getD j 0)) ∧ ∃ q, w' = (wr.drewN m).drewN q) := Lib.hid (fun m => by
              have h := REqual_ok hn6 (fr.no (Kp.drewN m) |>.tabAt hlt).1 (fr.no (Kp.drewN m) |>.tabAt hjl).1
              rw [BK.out.eqT (mem_zip hlt hfl2) (mem_zip hjl hfl2)] at h
              exact h)
            have HJ := Lib.hid hj
            have KJ := Lib.hid kpj
            clear hj kpj fr hfl2
            generalize fs.getD k 0 = f1 at *
            generalize fs.getD j 0 = f2 at *
            generalize tvs.getD k (.bool false) = t1 at *
            generalize tvs.getD j (.bool false) = t2 at *
            go_wp2_with fail
            go_quiet ((go_at_call 34; exact Calls.quiet_of (EQ.out _)))
            go_wp2_with fail
            go_roundg (k - (j + 1))
            case measure => have := HJ.out; omega
            case rel => exact ⟨j + 1, by omega, by go_num, KJ.out.trans_no (Kp.drewN _)⟩
          · obtain rfl : j = k := by omega
            have hge : ¬ (j : Int) < j := by omega
            have KJ := Lib.hid (KP.out.trans_no kpj)
            clear kpj hj
            go_wp2_with fail
            go_roundg (fs.length - (j + 1))
            case measure => have := HK.out; omega
            case rel => exact ⟨j + 1, by omega, by go_num, KJ.out⟩
      · obtain rfl : k = fs.length := by omega
        have KP := Lib.hid (FR.out.own.kp.trans_no kp)
        have hlti : ¬ (fs.length : Int) < fs.length := by omega
        clear kp hk
        go_wp2_with fail
        go_ret
        exact ⟨rfl, KP.out⟩
  · have hl : (40 : Int) < l.length := by omega
    go_enter Try.func6, Try.ntmps6
    go_wp2_with fail
    refine (awake_ok w).mono ?_
    rintro e w0 ⟨rfl, k0⟩
    have K0 := Lib.hid k0
    clear k0
    go_wp2_with fail
    go_ret
    exact ⟨rfl, K0.out⟩

end Go.Proofs.Ytifompekiockmaa
