/-
  Walks: the laws BddAgreesWithTruthTables and BddCanonical.
-/
import Derived.Test.YtifompekiockmaaFront
namespace Go.Proofs.Ytifompekiockmaa
open Go.RowKit

/-- A loop that only reads. -/
def LpR (w : World) (N gk : Nat) (s : Value) (wr : World) : Prop := ∃ k, k + gk = N ∧ s = .int .i64 (k : Int) ∧ Kp No w wr

set_option maxRecDepth 100000 in
set_option maxHeartbeats 2000000 in
theorem BddAgrees_walk (x : Int) (l : List Stp) {sv : Value} {w : World} (hs : StepsAt w sv l) :
    Calls Try.prog 10 #[.int .i64 x, sv] w fun e w' => e = .returned (.bool true) ∧ Kp No w w' := by
  obtain ⟨hn1, hn6⟩ := nv_le x
  have VA := Lib.hid (fun w => Vars_ok x w)
  generalize nv x = n at *
  have NEW := Lib.hid (fun (w0 : World) (k0 : Kp No w w0) => New_own (n := n) (by omega) k0)
  have ST := Lib.hid hs
  obtain ⟨ao, c, rfl, _⟩ := hs
  by_cases h40 : l.length ≤ 40
  · have hl : ¬ (40 : Int) < l.length := by omega
    go_enter Try.func10, Try.ntmps10
    go_wp2_with fail
    refine (awake_ok w).mono ?_
    rintro e w0 ⟨rfl, k0⟩
    have K0 := Lib.hid k0
    clear k0
    go_wp2_with fail
    refine (VA.out w0).mono ?_
    rintro e w0' ⟨rfl, rfl⟩
    go_wp2_with fail
    refine (NEW.out w0 K0.out).mono ?_
    rintro e w1 ⟨p, L1, rfl, s1, k1⟩
    have S1 := Lib.hid s1
    have K1 := Lib.hid k1
    clear s1 k1 NEW
    go_wp2_with fail
    refine (vars_ok S1.out.rep).mono ?_
    rintro e w1' ⟨rfl, rfl⟩
    rw [Mgr.new_n]
    unfold natV
    go_wp2_with fail
    refine (Run_own hn6 hn1 S1.out h40 ST.out).mono ?_
    rintro e w2 ⟨fv, tv, L2, tvs, rfl, fr⟩
    obtain ⟨rp, hFl⟩ := run_rp hn1 hn6 l h40
    generalize runM (Mgr.new n) n l = X at *
    generalize runF n l = Fs at *
    obtain ⟨M, fs⟩ := X
    simp only at fr rp
    have hpos := rp.pos
    have hfl : fs.length ≤ 100 := by rw [← fr.flen]; omega
    obtain ⟨gf, cf, gt, ct, rfl, rfl, lf, lt⟩ := fr.forms (by omega)
    have FR := Lib.hid fr
    have RPH := Lib.hid rp
    clear fr rp hFl
    go_wp2_with fail
    go_loopg [8] fs.length (fun gk s8 wr => LpR w2 fs.length gk s8 wr)
    case atStart => exact ⟨0, by omega, rfl, Kp.refl _ _⟩
    case round =>
      obtain ⟨k, hk, rfl, kp⟩ := hrel
      by_cases hlt : k < fs.length
      · have fr := FR.out.no kp
        have fr2 := fr.no (Kp.drew)
        obtain ⟨hv, hsem, hup⟩ := RPH.out.at hlt
        have AG := Lib.hid (Agrees_ok (fs.getD k 0) hn6 fr2.own.rep hv hsem hup (fr2.tabAt hlt).1)
        have S0 := Lib.hid (And.intro (fr2.cellF hlt) (fr2.cellT hlt))
        have HK := Lib.hid hk
        have KP := Lib.hid (kp.trans_no Kp.drew)
        have CK : Hid (∀ wx, Kp No wr.drew wx → wx.cell? ⟨gf, k, none⟩ = some (.int .i64 (fs.getD k 0)) ∧ wx.cell? ⟨gt, k, none⟩ = some (tvs.getD k (.bool false))) := Lib.hid (fun wx h => ⟨(fr2.no h).cellF hlt, (fr2.no h).cellT hlt⟩)
        have hlti : (k : Int) < fs.length := by omega
        clear hk kp fr fr2 hv hsem hup
        generalize fs.getD k 0 = f at *
        generalize tvs.getD k (.bool false) = tx at *
        go_upto_region 13 with (fail)
        go_region_held3 (fun x => x.cell? ⟨gf, k, none⟩ = some (.int .i64 f) ∧ x.cell? ⟨gt, k, none⟩ = some tx) (first | exact S0.out | exact SA.out)
          (first | (go_at_call 28; refine AG.out.mono ?_; rintro e wa ⟨rfl, ka⟩; have KA := Lib.hid (KP.out.trans_no ka); have SA := Lib.hid (CK.out _ ka); clear ka))
        all_goals
          go_wp2_with fail
          go_roundg (fs.length - (k + 1))
          case measure => have := HK.out; omega
          case rel => exact ⟨k + 1, by omega, by go_num, KA.out⟩
      · obtain rfl : k = fs.length := by omega
        have KP := Lib.hid (FR.out.own.kp.trans_no kp)
        have hlti : ¬ (fs.length : Int) < fs.length := by omega
        clear kp hk
        go_wp2_with fail
        go_ret
        exact ⟨rfl, KP.out⟩
  · have hl : (40 : Int) < l.length := by omega
    go_enter Try.func10, Try.ntmps10
    go_wp2_with fail
    refine (awake_ok w).mono ?_
    rintro e w0 ⟨rfl, k0⟩
    have K0 := Lib.hid k0
    clear k0
    go_wp2_with fail
    go_ret
    exact ⟨rfl, K0.out⟩

end Go.Proofs.Ytifompekiockmaa
