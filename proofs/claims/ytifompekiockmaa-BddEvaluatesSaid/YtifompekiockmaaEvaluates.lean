/-
  Walks: the law BddEvaluates.
-/
import Derived.Test.YtifompekiockmaaAgrees
import Derived.Test.YtifompekiockmaaBank
import Derived.Test.YtifompekiockmaaCopy
namespace Go.Proofs.Ytifompekiockmaa
open Go.RowKit

theorem idx_or {m : Nat} (hm : m < 6) (a : Nat → Bool) : bits BinOp.or IntKind.i64 (idx m a : Int) ((2 : Int) ^ m) = (idx m a + 2 ^ m : Nat) := by
  have h1 := idx_lt m a
  have h2 := pow_le_64 (n := m) (by omega)
  have h := (clr_fin ⟨idx m a, by omega⟩ ⟨m, hm⟩).2
  simp only at h
  rw [h]
  unfold sbt
  rw [if_neg (by simp [Nat.testBit_lt_two_pow h1])]

theorem idx_upto {n : Nat} {F : BF} (u : Upto n F) (l : List Bool) : F (bitsOf (idx (min n l.length) (asg l))) = F (asg l) := by
  refine u _ _ (fun v hv => ?_)
  by_cases h : v < l.length
  · exact idx_bit _ _ _ (by omega)
  · have hm : min n l.length ≤ v := by omega
    have h1 := idx_lt (min n l.length) (asg l)
    have h2 : 2 ^ min n l.length ≤ 2 ^ v := Nat.pow_le_pow_right (by omega) hm
    have h3 : (idx (min n l.length) (asg l)).testBit v = false := Nat.testBit_lt_two_pow (by omega)
    have h4 : asg l v = false := by simp [asg, List.getElem?_eq_none (Nat.le_of_not_lt h)]
    unfold bitsOf
    rw [h3, h4]

def EvI (w : World) (l : List Bool) (N gk : Nat) (s13 s14 : Value) (wr : World) : Prop := ∃ k, k + gk = N ∧ s14 = .int .i64 (k : Int) ∧ s13 = .int .i64 (idx k (asg l) : Int) ∧ w = wr

set_option maxRecDepth 100000 in
set_option maxHeartbeats 4000000 in
theorem BddEvaluates_walk (x : Int) (l : List Stp) {sv : Value} {w : World} (hs : StepsAt w sv l) (y : Int) (la : List Bool) {av : Value} (ha : Bools w av la) :
    Calls Try.prog 9 #[.int .i64 x, sv, .int .i64 y, av] w fun e w' => e = .returned (.bool true) ∧ Kp No w w' := by
  obtain ⟨hn1, hn6⟩ := nv_le x
  have VA := Lib.hid (fun w => Vars_ok x w)
  generalize nv x = n at *
  have NEW := Lib.hid (fun (w0 : World) (k0 : Kp No w w0) => New_own (n := n) (by omega) k0)
  have ST := Lib.hid hs
  obtain ⟨ao, c, rfl, _⟩ := hs
  have HA := Lib.hid ha
  obtain ⟨aa, ca, rfl, hlm, _⟩ := ha
  have hlm2 : (la.length : Int) ≤ 9223372036854775807 := by have := maxLen_val; omega
  by_cases h60 : la.length ≤ 60
  rotate_left
  · have hl2 : (60 : Int) < la.length := by omega
    by_cases h40 : l.length ≤ 40
    · have hl : ¬ (40 : Int) < l.length := by omega
      go_enter Try.func9, Try.ntmps9
      go_wp2_with fail
      refine (awake_ok w).mono ?_
      rintro e w0 ⟨rfl, k0⟩
      have K0 := Lib.hid k0
      clear k0
      go_wp2_with fail
      go_ret
      exact ⟨rfl, K0.out⟩
    · have hl : (40 : Int) < l.length := by omega
      go_enter Try.func9, Try.ntmps9
      go_wp2_with fail
      refine (awake_ok w).mono ?_
      rintro e w0 ⟨rfl, k0⟩
      have K0 := Lib.hid k0
      clear k0
      go_wp2_with fail
      go_ret
      exact ⟨rfl, K0.out⟩
  have hl2 : ¬ (60 : Int) < la.length := by omega
  have hd2 : decide ((60 : Int) < la.length) = false := by simp; omega
  by_cases h40 : l.length ≤ 40
  · have hl : ¬ (40 : Int) < l.length := by omega
    go_enter Try.func9, Try.ntmps9
    go_wp2_with fail
    refine (awake_ok w).mono ?_
    rintro e w0 ⟨rfl, k0⟩
    have K0 := Lib.hid k0
    clear k0
    go_wp2_with fail
    refine (VA.out w0).mono ?_
    rintro e w0' ⟨rfl, rfl⟩
    go_wp2_with fail
    refine (NEW.out w0 K0.out).mono ?_
    rintro e w1 ⟨p, L1, rfl, s1, k1⟩
    have S1 := Lib.hid s1
    clear s1 k1 NEW
    go_wp2_with fail
    refine (Run_own hn6 hn1 S1.out (by omega) ST.out).mono ?_
    rintro e w2 ⟨fv, tv, L2, tvs, rfl, fr⟩
    obtain ⟨rp, hFl⟩ := run_rp hn1 hn6 l (by omega)
    generalize runM (Mgr.new n) n l = X at *
    generalize runF n l = Fs at *
    obtain ⟨M, fs⟩ := X
    simp only at fr rp
    have hpos := rp.pos
    have hfl : fs.length ≤ 100 := by rw [← fr.flen]; omega
    obtain ⟨gf, cf, gt, ct, rfl, rfl, lf, lt⟩ := fr.forms (by omega)
    have FR := Lib.hid fr
    have RPH := Lib.hid rp
    clear fr rp hFl
    have hpk := pick_lt y (n := fs.length) (by omega)
    have PKC := Lib.hid (Pick_ok y fs.length w2 (by omega) (by omega))
    generalize pick y fs.length = q at *
    go_wp2_with fail
    refine PKC.out.mono ?_
    rintro e w2' ⟨rfl, rfl⟩
    clear PKC
    have HA2 := Lib.hid (HA.out.no FR.out.own.kp)
    go_wp2_with fail
    obtain ⟨N, hN⟩ : ∃ N, N = min n la.length := ⟨_, rfl⟩
    have HN := Lib.hid hN
    have hN1 : N ≤ n := by omega
    have hN2 : N ≤ la.length := by omega
    have hN3 : N = n ∨ N = la.length := by omega
    have HN3 := Lib.hid hN3
    clear hN hN3
    go_loopg [13, 14] N (fun gk s13 s14 wr => EvI w2 la N gk s13 s14 wr)
    case atStart => exact ⟨0, by omega, rfl, rfl, rfl⟩
    case round =>
      obtain ⟨k, hk, rfl, rfl, rfl⟩ := hrel
      by_cases hlt : k < N
      · have HK := Lib.hid hk
        have h1 : (k : Int) < n := by omega
        have h2 : (k : Int) < la.length := by omega
        obtain ⟨ao', c', hv', _, hcells⟩ := HA2.out
        cases hv'
        rcases hcells with hcells | ⟨g, o, rfl, hcells⟩
        · subst hcells; simp at hN2; omega
        have hb := hcells k (la[k]) (by simp)
        have hav : asg la k = la[k] := by simp [asg, show k < la.length by omega]
        have hor := idx_or (m := k) (by omega) (asg la)
        have hp := shl_pow (n := k) (by omega)
        have hi1 := idx_lt k (asg la)
        have hi2 := pow_le_64 (n := k) (by omega)
        have hk0 : (0 : Int) ≤ k := by omega
        have hk6 : (k : Int) < 64 := by omega
        have hsu : idx (k + 1) (asg la) = idx k (asg la) + if asg la k then 2 ^ k else 0 := rfl
        rw [hav] at hsu
        cases hbx : la[k] with
        | true =>
          rw [hbx] at hb hsu
          simp only [if_true] at hsu
          have NX : Hid (EvI w2 la N (N - (k + 1)) (.int .i64 ((idx k (asg la) + 2 ^ k : Nat) : Int)) (.int .i64 ((k + 1 : Nat) : Int)) w2) := ⟨k + 1, by omega, rfl, by rw [hsu], rfl⟩
          clear hcells hk hav hsu hbx hi1 hi2
          generalize hZ : ((idx k (asg la) + 2 ^ k : Nat) : Int) = Z at *
          clear hZ
          go_wp2_with fail
          go_roundg (N - (k + 1))
          case measure => have := HK.out; omega
          case rel => exact NX.out
        | false =>
          rw [hbx] at hb hsu
          simp only [Bool.false_eq_true, if_false, Nat.add_zero] at hsu
          have NX : Hid (EvI w2 la N (N - (k + 1)) (.int .i64 (idx k (asg la) : Int)) (.int .i64 ((k + 1 : Nat) : Int)) w2) := ⟨k + 1, by omega, rfl, by rw [hsu], rfl⟩
          clear hcells hk hav hsu hbx hi1 hor hp hi2
          go_wp2_with fail
          go_roundg (N - (k + 1))
          case measure => have := HK.out; omega
          case rel => exact NX.out
      · obtain rfl : k = N := by omega
        obtain ⟨hv, hsem, hup⟩ := RPH.out.at hpk
        have hbd : idx k (asg la) < 2 ^ n := Nat.lt_of_lt_of_le (idx_lt k (asg la)) (Nat.pow_le_pow_right (by omega) hN1)
        have hN := pow_le_64 hn6
        have fr2 := FR.out.no (Kp.drew)
        have htb := (fr2.tabAt hpk).1
        obtain ⟨gx, cx, htx, _⟩ := htb.form
        have hval : Fs.getD q (fun _ => false) (bitsOf (idx k (asg la))) = Fs.getD q (fun _ => false) (asg la) := by rw [HN.out]; exact idx_upto hup la
        have CK : Hid (∀ wx, Kp No w2.drew wx → wx.cell? ⟨gf, q, none⟩ = some (.int .i64 (fs.getD q 0)) ∧ wx.cell? ⟨gt, q, none⟩ = some (tvs.getD q (.bool false)) ∧ wx.cell? ⟨gx, idx k (asg la), none⟩ = some (.bool (Fs.getD q (fun _ => false) (asg la)))) := Lib.hid (fun wx h =>
          ⟨(fr2.no h).cellF hpk, (fr2.no h).cellT hpk, by rw [htx] at htb; rw [htb.cellAt h hbd, hval]⟩)
        have EVK : Hid (∀ wx v, Kp No w2.drew wx → Bools wx v la → Calls Try.prog 31 #[ptr p, .int .i64 (fs.getD q 0), v] wx fun e w' => e = .returned (.bool (Fs.getD q (fun _ => false) (asg la))) ∧ Kp No wx w') := Lib.hid (fun wx v h hb => by
          have h1 := Eval_ok (fs.getD q 0) (fr2.no h).own.rep hb
          have e1 : M.evalM (fs.getD q 0) la = Fs.getD q (fun _ => false) (asg la) := by unfold Mgr.evalM; rw [if_pos hv, hsem]
          rw [e1] at h1
          exact h1)
        have SRC := Lib.hid (SrcAt.of_bools HA2.out)
        rw [htx] at CK
        have S0 := Lib.hid (CK.out _ (Kp.refl _ _))
        obtain ⟨j0, hj0, hy0, hy1, hy2⟩ := info_parts info_bool
        have hqi : (q : Int) < fs.length := by omega
        have hii : ((idx k (asg la) : Nat) : Int) < ((2 ^ n : Nat) : Int) := by exact_mod_cast hbd
        have KF := Lib.hid FR.out.own.kp
        have hone : ∀ x ∈ la.map Value.bool, x.oneCell' = true := by intro x hx; obtain ⟨b, _, rfl⟩ := List.mem_map.1 hx; rfl
        have HONE := Lib.hid hone
        have STOP : Hid (¬ ((k : Int) < n ∧ (k : Int) < la.length)) := Lib.hid (by have := HN3.out; omega)
        clear hk hv hsem hup fr2 htb htx hval hone hbd hN
        generalize fs.getD q 0 = f at *
        generalize tvs.getD q (.bool false) = tx at *
        generalize Fs.getD q (fun _ => false) (asg la) = b at *
        generalize idx k (asg la) = ii at *
        generalize 2 ^ n = NN at *
        by_cases hc1 : (k : Int) < n
        · have hc2 : ¬ (k : Int) < la.length := fun h => STOP.out ⟨hc1, h⟩
          have hc3 : decide ((k : Int) < (la.length : Int)) = false := by simp; omega
          go_upto_region 17 with (fail)
          go_region_held3 (fun x => x.cell? ⟨gf, q, none⟩ = some (.int .i64 f) ∧ x.cell? ⟨gt, q, none⟩ = some (.slice (some ⟨gx, 0, none⟩) NN cx) ∧ x.cell? ⟨gx, ii, none⟩ = some (.bool b)) (first | exact S0.out | exact SA.out | exact SB.out)
            (first | (refine step_append_src (by rfl) _ _ (by rfl) Try.underlying42 hj0 hy0 hy1 hy2 rfl (by omega) (by rfl) (World.ownsRow_nil _ _ _ _) (by rfl) (SRC.out.no Kp.drew) HONE.out (by unfold maxLen; omega) (by omega) (Nat.zero_le _) ?_; intro va wa hown hgrow hat; have ka : Kp No w2.drew wa := (Kp.grown hgrow).mono (fun x _ h => by simp [Value.ownBlock] at h); have KA := Lib.hid ka; have SA := Lib.hid (CK.out _ ka); have BA := Lib.hid (Bools.of_row (l := la) (by simpa using hown)); clear hown hgrow hat ka) | (go_at_call 31; refine (EVK.out _ _ KA.out BA.out).mono ?_; rintro e wb ⟨rfl, kb⟩; have KB := Lib.hid (KA.out.trans_no kb); have SB := Lib.hid (CK.out _ (KA.out.trans_no kb)); clear kb))
          all_goals
            cases b <;>
            · go_wp2_with fail
              go_ret
              exact ⟨rfl, (KF.out.trans_no Kp.drew).trans_no KB.out⟩
        · have hc3 : decide ((k : Int) < (n : Int)) = false := by simp; omega
          go_upto_region 17 with (fail)
          go_region_held3 (fun x => x.cell? ⟨gf, q, none⟩ = some (.int .i64 f) ∧ x.cell? ⟨gt, q, none⟩ = some (.slice (some ⟨gx, 0, none⟩) NN cx) ∧ x.cell? ⟨gx, ii, none⟩ = some (.bool b)) (first | exact S0.out | exact SA.out | exact SB.out)
            (first | (refine step_append_src (by rfl) _ _ (by rfl) Try.underlying42 hj0 hy0 hy1 hy2 rfl (by omega) (by rfl) (World.ownsRow_nil _ _ _ _) (by rfl) (SRC.out.no Kp.drew) HONE.out (by unfold maxLen; omega) (by omega) (Nat.zero_le _) ?_; intro va wa hown hgrow hat; have ka : Kp No w2.drew wa := (Kp.grown hgrow).mono (fun x _ h => by simp [Value.ownBlock] at h); have KA := Lib.hid ka; have SA := Lib.hid (CK.out _ ka); have BA := Lib.hid (Bools.of_row (l := la) (by simpa using hown)); clear hown hgrow hat ka) | (go_at_call 31; refine (EVK.out _ _ KA.out BA.out).mono ?_; rintro e wb ⟨rfl, kb⟩; have KB := Lib.hid (KA.out.trans_no kb); have SB := Lib.hid (CK.out _ (KA.out.trans_no kb)); clear kb))
          all_goals
            cases b <;>
            · go_wp2_with fail
              go_ret
              exact ⟨rfl, (KF.out.trans_no Kp.drew).trans_no KB.out⟩
  · have hl : (40 : Int) < l.length := by omega
    go_enter Try.func9, Try.ntmps9
    go_wp2_with fail
    refine (awake_ok w).mono ?_
    rintro e w0 ⟨rfl, k0⟩
    have K0 := Lib.hid k0
    clear k0
    go_wp2_with fail
    go_ret
    exact ⟨rfl, K0.out⟩

end Go.Proofs.Ytifompekiockmaa
