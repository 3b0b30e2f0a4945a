/-
  Walks: the law HeaderRanges.
-/
import Derived.Test.YtgglkldoclejaaaDoorHl
namespace Go.Proofs.YtgglkldoclejaaaDoor
open Go.RowKit

set_option maxRecDepth 100000 in
set_option maxHeartbeats 4000000 in
theorem HeaderRanges_walk (x : Int) (nx : Bool) (lo hi : Nat) (p q : Pkt) (hlo : lo < 4294967296) (hhi : hi < 4294967296) (hp : p.in32) (hq : q.in32) {w : World} (g : Gl w) :
    Calls Tryd.prog 6 #[.int .i64 x, .bool nx, .int .u32 (lo : Int), .int .u32 (hi : Int), pktV p, pktV q] w fun e w' => e = .returned (.bool true) ∧ Kp No w w' := by
  have T0 := Lib.hid (Two2.new2 g p q)
  clear g
  have AW := Lib.hid (fun (y : World) (h : Gl y) => hawake_ok h)
  have VP := Lib.hid (fun (y : World) => ValidPacket_ok p y)
  have VQ := Lib.hid (fun (y : World) => ValidPacket_ok q y)
  cases hvp : vpB p
  · rw [hvp] at VP
    clear hvp
    unfold pktV at VP VQ ⊢
    go_enter Tryd.func6, Tryd.ntmps6
    go_wp2_with fail
    refine (AW.out _ T0.out.gl).mono ?_
    rintro e w1 ⟨rfl, k1⟩
    have T1 := Lib.hid (T0.out.no k1)
    clear k1 T0
    obtain ⟨c0, c1, c2, c3, c4⟩ := T1.out.pa
    go_wp2_with fail
    refine (VP.out _).mono ?_
    rintro e w2 ⟨rfl, k2⟩
    have T2 := Lib.hid (T1.out.no k2)
    clear k2 T1 c0 c1 c2 c3 c4
    go_wp2_with fail
    go_ret
    exact ⟨rfl, T2.out.kp⟩
  rw [hvp] at VP
  have hpo := vpB_true hp hvp
  cases hvq : vpB q
  · rw [hvq] at VQ
    clear hvq hvp hpo
    unfold pktV at VP VQ ⊢
    go_enter Tryd.func6, Tryd.ntmps6
    go_wp2_with fail
    refine (AW.out _ T0.out.gl).mono ?_
    rintro e w1 ⟨rfl, k1⟩
    have T1 := Lib.hid (T0.out.no k1)
    clear k1 T0
    obtain ⟨c0, c1, c2, c3, c4⟩ := T1.out.pa
    go_wp2_with fail
    refine (VP.out _).mono ?_
    rintro e w2 ⟨rfl, k2⟩
    have T2 := Lib.hid (T1.out.no k2)
    clear k2 T1 c0 c1 c2 c3 c4
    obtain ⟨d0, d1, d2, d3, d4⟩ := T2.out.pb
    go_wp2_with fail
    refine (VQ.out _).mono ?_
    rintro e w3 ⟨rfl, k3⟩
    have T3 := Lib.hid (T2.out.no k3)
    clear k3 T2 d0 d1 d2 d3 d4
    go_wp2_with fail
    go_ret
    exact ⟨rfl, T3.out.kp⟩
  rw [hvq] at VQ
  have hqo := vpB_true hq hvq
  have NEW := Lib.hid (fun (y : World) => HNew_ok y)
  clear hvp hvq
  by_cases hx : 0 ≤ x ∧ x < 5
  · obtain ⟨k, rfl⟩ : ∃ k : Nat, x = (k : Int) := ⟨x.toNat, by omega⟩
    have hk : k < 5 := by omega
    have FP := Lib.hid (fun (y : World) => Field_ok p k hk y)
    have FQ := Lib.hid (fun (y : World) => Field_ok q k hk y)
    have PR := Lib.hid (fun (y : World) (h : Gl y) => pair_ok p q hp hq h)
    have HK := Lib.hid hk
    have EV := Lib.hid (rgF_enc (fun _ => false) hpo hqo hk nx lo hi)
    have h0 : ¬ (k : Int) < 0 := by omega
    have h4 : ¬ (4 : Int) < (k : Int) := by omega
    clear hx hk
    unfold pktV at VP VQ FP FQ PR ⊢
    cases nx
    · simp only [Bool.false_eq_true, if_false] at EV
      go_enter Tryd.func6, Tryd.ntmps6
      go_wp2_with fail
      refine (AW.out _ T0.out.gl).mono ?_
      rintro e w1 ⟨rfl, k1⟩
      have T1 := Lib.hid (T0.out.no k1)
      clear k1 T0
      obtain ⟨c0, c1, c2, c3, c4⟩ := T1.out.pa
      go_wp2_with fail
      refine (VP.out _).mono ?_
      rintro e w2 ⟨rfl, k2⟩
      have T2 := Lib.hid (T1.out.no k2)
      clear k2 T1 c0 c1 c2 c3 c4
      obtain ⟨d0, d1, d2, d3, d4⟩ := T2.out.pb
      go_wp2_with fail
      refine (VQ.out _).mono ?_
      rintro e w3 ⟨rfl, k3⟩
      have T3 := Lib.hid (T2.out.no k3)
      clear k3 T2 d0 d1 d2 d3 d4
      go_wp2_with fail
      refine (NEW.out _).mono ?_
      rintro e w4 ⟨pm, L4, rfl, R4, k4, o4⟩
      have T4 := Lib.hid (T3.out.no k4)
      have H4 := Lib.hid (hf_new T3.out.gl (Kp.refl No w3) R4 k4 o4)
      have O4 : Hid (∀ x, L4.at pm x → w.heap.size ≤ x) := Lib.hid (fun x hx => by have := o4 x hx; have := T3.out.kp.size; omega)
      have B4 : Hid (∀ x, L4.at pm x → w3.heap.size ≤ x) := Lib.hid o4
      clear R4 k4 o4 NEW
      go_wp2_with fail
      refine Calls.mono (Range_ok k HK.out false lo hi hlo hhi H4.out.rep H4.out.qk H4.out.gl H4.out.off (by omega)) ?_
      intro e w5 h5
      obtain ⟨r, M5, L5, rfl, hr, f5⟩ := H4.out.step h5
      have H5 := Lib.hid f5
      have T5 := Lib.hid (T4.out.mgr f5.sd.kp B4.out T3.out.pa.lt T3.out.pb.lt T3.out.kp.size)
      clear h5 f5 T4
      obtain ⟨c0, c1, c2, c3, c4⟩ := T5.out.pa
      go_wp2_with fail
      refine (FP.out _).mono ?_
      rintro e w6 ⟨rfl, k6⟩
      have T6 := Lib.hid (T5.out.no k6)
      have H6 := Lib.hid (H5.out.no k6)
      clear k6 T5 H5 c0 c1 c2 c3 c4
      go_wp2_with fail
      refine (ValidQ H6.out.rep H6.out.qk (.head _)).mono ?_
      rintro e w' ⟨rfl, rfl⟩
      obtain ⟨c0, c1, c2, c3, c4⟩ := T6.out.pa
      obtain ⟨d0, d1, d2, d3, d4⟩ := T6.out.pb
      go_wp2_with fail
      refine (PR.out _ T6.out.gl).mono ?_
      rintro e w7 ⟨ga, rfl, row, k7⟩
      have EQ := Lib.hid (EvalQ (H6.out.rep.no k7) H6.out.qk (.head _) (bools_row row))
      rw [EV.out] at EQ
      have T7 := Lib.hid (T6.out.no k7)
      clear row k7 T6 c0 c1 c2 c3 c4 d0 d1 d2 d3 d4
      go_wp2_with fail
      by_cases h1 : lo ≤ p.f k
      · have h1i : (lo : Int) ≤ (p.f k : Int) := by omega
        by_cases h2 : p.f k ≤ hi
        · have h2i : (p.f k : Int) ≤ (hi : Int) := by omega
          rw [decide_eq_true (And.intro h1 h2)] at EQ
          refine EQ.out.mono ?_
          rintro e w8 ⟨rfl, k8⟩
          have KF := Lib.hid (T7.out.kp.trans_no k8)
          clear k8 EQ T7
          go_wp2_with fail
          go_ret
          exact ⟨rfl, KF.out⟩
        · have h2i : ¬ (p.f k : Int) ≤ (hi : Int) := by omega
          rw [decide_eq_false (fun h => h2 h.2)] at EQ
          refine EQ.out.mono ?_
          rintro e w8 ⟨rfl, k8⟩
          have KF := Lib.hid (T7.out.kp.trans_no k8)
          clear k8 EQ T7
          go_wp2_with fail
          go_ret
          exact ⟨rfl, KF.out⟩
      · have h1i : ¬ (lo : Int) ≤ (p.f k : Int) := by omega
        rw [decide_eq_false (fun h => h1 h.1)] at EQ
        refine EQ.out.mono ?_
        rintro e w8 ⟨rfl, k8⟩
        have KF := Lib.hid (T7.out.kp.trans_no k8)
        clear k8 EQ T7
        go_wp2_with fail
        go_ret
        exact ⟨rfl, KF.out⟩
    · simp only [if_true] at EV
      go_enter Tryd.func6, Tryd.ntmps6
      go_wp2_with fail
      refine (AW.out _ T0.out.gl).mono ?_
      rintro e w1 ⟨rfl, k1⟩
      have T1 := Lib.hid (T0.out.no k1)
      clear k1 T0
      obtain ⟨c0, c1, c2, c3, c4⟩ := T1.out.pa
      go_wp2_with fail
      refine (VP.out _).mono ?_
      rintro e w2 ⟨rfl, k2⟩
      have T2 := Lib.hid (T1.out.no k2)
      clear k2 T1 c0 c1 c2 c3 c4
      obtain ⟨d0, d1, d2, d3, d4⟩ := T2.out.pb
      go_wp2_with fail
      refine (VQ.out _).mono ?_
      rintro e w3 ⟨rfl, k3⟩
      have T3 := Lib.hid (T2.out.no k3)
      clear k3 T2 d0 d1 d2 d3 d4
      go_wp2_with fail
      refine (NEW.out _).mono ?_
      rintro e w4 ⟨pm, L4, rfl, R4, k4, o4⟩
      have T4 := Lib.hid (T3.out.no k4)
      have H4 := Lib.hid (hf_new T3.out.gl (Kp.refl No w3) R4 k4 o4)
      have O4 : Hid (∀ x, L4.at pm x → w.heap.size ≤ x) := Lib.hid (fun x hx => by have := o4 x hx; have := T3.out.kp.size; omega)
      have B4 : Hid (∀ x, L4.at pm x → w3.heap.size ≤ x) := Lib.hid o4
      clear R4 k4 o4 NEW
      go_wp2_with fail
      refine Calls.mono (Range_ok k HK.out true lo hi hlo hhi H4.out.rep H4.out.qk H4.out.gl H4.out.off (by omega)) ?_
      intro e w5 h5
      obtain ⟨r, M5, L5, rfl, hr, f5⟩ := H4.out.step h5
      have H5 := Lib.hid f5
      have T5 := Lib.hid (T4.out.mgr f5.sd.kp B4.out T3.out.pa.lt T3.out.pb.lt T3.out.kp.size)
      clear h5 f5 T4
      obtain ⟨c0, c1, c2, c3, c4⟩ := T5.out.pa
      go_wp2_with fail
      refine (FP.out _).mono ?_
      rintro e w6 ⟨rfl, k6⟩
      have T6 := Lib.hid (T5.out.no k6)
      have H6 := Lib.hid (H5.out.no k6)
      clear k6 T5 H5 c0 c1 c2 c3 c4
      obtain ⟨d0, d1, d2, d3, d4⟩ := T6.out.pb
      go_wp2_with fail
      refine (FQ.out _).mono ?_
      rintro e w6 ⟨rfl, k6⟩
      have T6 := Lib.hid (T6.out.no k6)
      have H6 := Lib.hid (H6.out.no k6)
      clear k6 d0 d1 d2 d3 d4
      go_wp2_with fail
      refine (ValidQ H6.out.rep H6.out.qk (.head _)).mono ?_
      rintro e w' ⟨rfl, rfl⟩
      obtain ⟨c0, c1, c2, c3, c4⟩ := T6.out.pa
      obtain ⟨d0, d1, d2, d3, d4⟩ := T6.out.pb
      go_wp2_with fail
      refine (PR.out _ T6.out.gl).mono ?_
      rintro e w7 ⟨ga, rfl, row, k7⟩
      have EQ := Lib.hid (EvalQ (H6.out.rep.no k7) H6.out.qk (.head _) (bools_row row))
      rw [EV.out] at EQ
      have T7 := Lib.hid (T6.out.no k7)
      clear row k7 T6 c0 c1 c2 c3 c4 d0 d1 d2 d3 d4
      go_wp2_with fail
      by_cases h1 : lo ≤ q.f k
      · have h1i : (lo : Int) ≤ (q.f k : Int) := by omega
        by_cases h2 : q.f k ≤ hi
        · have h2i : (q.f k : Int) ≤ (hi : Int) := by omega
          rw [decide_eq_true (And.intro h1 h2)] at EQ
          refine EQ.out.mono ?_
          rintro e w8 ⟨rfl, k8⟩
          have KF := Lib.hid (T7.out.kp.trans_no k8)
          clear k8 EQ T7
          go_wp2_with fail
          go_ret
          exact ⟨rfl, KF.out⟩
        · have h2i : ¬ (q.f k : Int) ≤ (hi : Int) := by omega
          rw [decide_eq_false (fun h => h2 h.2)] at EQ
          refine EQ.out.mono ?_
          rintro e w8 ⟨rfl, k8⟩
          have KF := Lib.hid (T7.out.kp.trans_no k8)
          clear k8 EQ T7
          go_wp2_with fail
          go_ret
          exact ⟨rfl, KF.out⟩
      · have h1i : ¬ (lo : Int) ≤ (q.f k : Int) := by omega
        rw [decide_eq_false (fun h => h1 h.1)] at EQ
        refine EQ.out.mono ?_
        rintro e w8 ⟨rfl, k8⟩
        have KF := Lib.hid (T7.out.kp.trans_no k8)
        clear k8 EQ T7
        go_wp2_with fail
        go_ret
        exact ⟨rfl, KF.out⟩
  · have RB := Lib.hid (fun (pm : Nat) (y : World) => Range_bad x hx pm nx (lo : Int) (hi : Int) y)
    by_cases h0 : x < 0
    · clear hx
      unfold pktV at VP VQ ⊢
      go_enter Tryd.func6, Tryd.ntmps6
      go_wp2_with fail
      refine (AW.out _ T0.out.gl).mono ?_
      rintro e w1 ⟨rfl, k1⟩
      have T1 := Lib.hid (T0.out.no k1)
      clear k1 T0
      obtain ⟨c0, c1, c2, c3, c4⟩ := T1.out.pa
      go_wp2_with fail
      refine (VP.out _).mono ?_
      rintro e w2 ⟨rfl, k2⟩
      have T2 := Lib.hid (T1.out.no k2)
      clear k2 T1 c0 c1 c2 c3 c4
      obtain ⟨d0, d1, d2, d3, d4⟩ := T2.out.pb
      go_wp2_with fail
      refine (VQ.out _).mono ?_
      rintro e w3 ⟨rfl, k3⟩
      have T3 := Lib.hid (T2.out.no k3)
      clear k3 T2 d0 d1 d2 d3 d4
      go_wp2_with fail
      refine (NEW.out _).mono ?_
      rintro e w4 ⟨pm, L4, rfl, R4, k4, o4⟩
      have T4 := Lib.hid (T3.out.no k4)
      have H4 := Lib.hid (hf_new T3.out.gl (Kp.refl No w3) R4 k4 o4)
      have O4 : Hid (∀ x, L4.at pm x → w.heap.size ≤ x) := Lib.hid (fun x hx => by have := o4 x hx; have := T3.out.kp.size; omega)
      have B4 : Hid (∀ x, L4.at pm x → w3.heap.size ≤ x) := Lib.hid o4
      clear R4 k4 o4 NEW
      go_wp2_with fail
      refine (RB.out _ _).mono ?_
      rintro e w' ⟨rfl, rfl⟩
      go_wp2_with fail
      go_ret
      exact ⟨rfl, T4.out.kp⟩
    · have h4 : (4 : Int) < x := by omega
      clear hx
      unfold pktV at VP VQ ⊢
      go_enter Tryd.func6, Tryd.ntmps6
      go_wp2_with fail
      refine (AW.out _ T0.out.gl).mono ?_
      rintro e w1 ⟨rfl, k1⟩
      have T1 := Lib.hid (T0.out.no k1)
      clear k1 T0
      obtain ⟨c0, c1, c2, c3, c4⟩ := T1.out.pa
      go_wp2_with fail
      refine (VP.out _).mono ?_
      rintro e w2 ⟨rfl, k2⟩
      have T2 := Lib.hid (T1.out.no k2)
      clear k2 T1 c0 c1 c2 c3 c4
      obtain ⟨d0, d1, d2, d3, d4⟩ := T2.out.pb
      go_wp2_with fail
      refine (VQ.out _).mono ?_
      rintro e w3 ⟨rfl, k3⟩
      have T3 := Lib.hid (T2.out.no k3)
      clear k3 T2 d0 d1 d2 d3 d4
      go_wp2_with fail
      refine (NEW.out _).mono ?_
      rintro e w4 ⟨pm, L4, rfl, R4, k4, o4⟩
      have T4 := Lib.hid (T3.out.no k4)
      have H4 := Lib.hid (hf_new T3.out.gl (Kp.refl No w3) R4 k4 o4)
      have O4 : Hid (∀ x, L4.at pm x → w.heap.size ≤ x) := Lib.hid (fun x hx => by have := o4 x hx; have := T3.out.kp.size; omega)
      have B4 : Hid (∀ x, L4.at pm x → w3.heap.size ≤ x) := Lib.hid o4
      clear R4 k4 o4 NEW
      go_wp2_with fail
      refine (RB.out _ _).mono ?_
      rintro e w' ⟨rfl, rfl⟩
      go_wp2_with fail
      go_ret
      exact ⟨rfl, T4.out.kp⟩

end Go.Proofs.YtgglkldoclejaaaDoor
