/-
  The reference's Rename.
-/
import Derived.Test.YtngbodmooddjbaaQu
namespace Go.Proofs.Ytngbodmooddjbaa
open Go.RowKit

/-- The index behind j steps. -/
def rnB (n i : Nat) (fr tg : List Nat) (j k : Nat) : Prop := k < 2 ^ n ∧ ∀ v, v < n → k.testBit v = i.testBit ((rnI n fr tg j).getD v 0)
theorem rnB_zero {n i : Nat} {fr tg : List Nat} (h : i < 2 ^ n) : rnB n i fr tg 0 i := ⟨h, fun v hv => by simp [rnI, hv]⟩
theorem rnB_step {n i j k : Nat} {fr tg : List Nat} (hn : n ≤ 6) (hu : fr.getD j 0 < n) (b : rnB n i fr tg j k) : rnB n i fr tg (j + 1) (fixb k (fr.getD j 0) (i.testBit (tg.getD j 0))) := by
  refine ⟨fix_lt hn hu b.1 _, fun v hv => ?_⟩
  have h := fix_bits hn hu b.1 (i.testBit (tg.getD j 0)) v hv
  unfold bitsOf Mgr.upd at h
  rw [h, rnI_succ]
  have hl := rnI_len n fr tg j
  rw [show ((rnI n fr tg j).set (fr.getD j 0) (tg.getD j 0)).getD v 0 = ((rnI n fr tg j).set (fr.getD j 0) (tg.getD j 0))[v]?.getD 0 from List.getD_eq_getElem?_getD .., List.getElem?_set]
  by_cases e : v = fr.getD j 0
  · rw [if_pos e, if_pos e.symm, if_pos (by omega)]; rfl
  · rw [if_neg e, if_neg (fun h => e h.symm), ← List.getD_eq_getElem?_getD]
    exact b.2 v hv
theorem sbt_clr : ∀ i : Fin 64, ∀ v : Fin 6, sbt (clr i.val v.val) v.val = sbt i.val v.val := by decide +kernel
theorem clr_64 : ∀ i : Fin 64, ∀ v : Fin 6, clr i.val v.val < 64 := by decide +kernel
theorem rnB_done {n i k : Nat} {fr tg : List Nat} {F : Bfn} (hF : Upto n F) (b : rnB n i fr tg fr.length k) : F (bitsOf k) = rnF (rnT n fr tg) F (bitsOf i) := hF _ _ (fun v hv => b.2 v hv)

def RnK (n i : Nat) (fr tg : List Nat) (wr : World) (gk : Nat) (s9 s10 : Value) (x : World) : Prop :=
  ∃ j k : Nat, j + gk = fr.length ∧ s10 = .int .i64 (j : Int) ∧ s9 = .int .i64 (k : Int) ∧ rnB n i fr tg j k ∧ x = wr

/-! ### lists that are refused -/
theorem distB_nats {m : List Nat} : distB (m.map Int.ofNat) = true ↔ m.Nodup := by
  unfold distB
  rw [decide_eq_true_iff, List.nodup_iff_pairwise_ne, List.nodup_iff_pairwise_ne, List.pairwise_map]
  constructor
  · exact fun h => h.imp (fun hne e => hne (by rw [e]))
  · exact fun h => h.imp (fun hne e => hne (Int.ofNat.inj e))
set_option maxRecDepth 100000 in
theorem Rename_bad {p n c : Nat} {M : Mgr} {L : Lay} {w : World} {B : List (Int × Bfn)} {f : Int} (hn : n ≤ 6) (R : Rep w p M L) (b : Qk n c M B) (hf : M.valid f = true) (l1 l2 : List Int) (hl1 : l1.length ≤ 1000000) (hl2 : l2.length ≤ 1000000) {v1 v2 : Value} (hd1 : SrcAt w v1 1 l1.length (l1.map intV)) (hd2 : SrcAt w v2 1 l2.length (l2.map intV))
    (hbad : ¬ (l1.length = l2.length ∧ varsB n l1 = true ∧ varsB n l2 = true ∧ distB l1 = true)) :
    Calls Try.prog 17 #[ptr p, .int .i64 f, v1, v2] w fun e w' => e = .returned (.int .i64 (-1)) ∧ Kp No w w' := by
  have VF := Lib.hid (valid_as f true R hf)
  have V1 := Lib.hid (variables_ok l1 hl1 R hd1)
  have V2 := Lib.hid (variables_ok l2 hl2 R hd2)
  rw [b.nn] at V1 V2
  have RPT : Hid (∀ fr : List Nat, l1 = fr.map Int.ofNat → (∀ v, v ∈ fr → v < n) → Calls Try.prog 56 #[ptr p, v1] w fun e w' => e = .returned (.bool (!distB l1)) ∧ Kp No w w') := Lib.hid (fun fr e hfr => by
    refine repeats_ok fr (by rw [e, List.length_map] at hl1; exact hl1) (by rw [b.nn]; exact hfr) R (by rw [b.nn]; omega) (by rw [e] at hd1; exact hd1.nats) _ ?_
    rw [e, Bool.not_eq_true', ← Bool.not_eq_true, distB_nats])
  have hle1 : (l1.length : Int) ≤ 1000000 := by omega
  have hle2 : (l2.length : Int) ≤ 1000000 := by omega
  obtain ⟨ao, cp, rfl⟩ := hd1.form
  obtain ⟨bo, dp, rfl⟩ := hd2.form
  clear R hd1 hd2 b hl1 hl2
  by_cases hlen : l1.length = l2.length
  · have hleni : (l1.length : Int) = (l2.length : Int) := by omega
    have e1 : ((l1.length : Int) != (l2.length : Int)) = false := by simp [hleni]
    have e2 : ((l1.length : Int) == (l2.length : Int)) = true := by simp [hleni]
    cases hv1 : varsB n l1
    · rw [hv1] at V1
      clear hbad hlen hleni RPT
      go_enter Try.func17, Try.ntmps17
      go_wp2_with fail
      refine VF.out.mono ?_
      rintro e w' ⟨rfl, rfl⟩
      go_wp2_with fail
      refine V1.out.mono ?_
      rintro e w' ⟨rfl, rfl⟩
      go_wp2_with fail
      go_ret
      exact ⟨rfl, Kp.refl _ _⟩
    · rw [hv1] at V1
      cases hv2 : varsB n l2
      · rw [hv2] at V2
        clear hbad hlen hleni RPT
        go_enter Try.func17, Try.ntmps17
        go_wp2_with fail
        refine VF.out.mono ?_
        rintro e w' ⟨rfl, rfl⟩
        go_wp2_with fail
        refine V1.out.mono ?_
        rintro e w' ⟨rfl, rfl⟩
        go_wp2_with fail
        refine V2.out.mono ?_
        rintro e w' ⟨rfl, rfl⟩
        go_wp2_with fail
        go_ret
        exact ⟨rfl, Kp.refl _ _⟩
      · rw [hv2] at V2
        have hd : distB l1 = false := by
          cases h : distB l1
          · rfl
          · exact (hbad ⟨hlen, hv1, hv2, h⟩).elim
        obtain ⟨fr, hfr1, hfr2⟩ := varsB_nat hv1
        have RP := Lib.hid (RPT.out fr hfr1 hfr2)
        rw [hd] at RP
        clear hbad hlen hleni RPT hfr1 hfr2 hv1 hv2
        go_enter Try.func17, Try.ntmps17
        go_wp2_with fail
        refine VF.out.mono ?_
        rintro e w' ⟨rfl, rfl⟩
        go_wp2_with fail
        refine V1.out.mono ?_
        rintro e w' ⟨rfl, rfl⟩
        go_wp2_with fail
        refine V2.out.mono ?_
        rintro e w' ⟨rfl, rfl⟩
        go_wp2_with fail
        refine RP.out.mono ?_
        rintro e w' ⟨rfl, kr⟩
        have KR := Lib.hid kr
        clear kr
        go_wp2_with fail
        go_ret
        exact ⟨rfl, KR.out⟩
  · have hleni : ¬ (l1.length : Int) = (l2.length : Int) := by omega
    have e1 : ((l1.length : Int) != (l2.length : Int)) = true := by simp [hleni]
    have e2 : ((l1.length : Int) == (l2.length : Int)) = false := by simp [hleni]
    clear hbad hlen RPT
    go_enter Try.func17, Try.ntmps17
    go_wp2_with fail
    refine VF.out.mono ?_
    rintro e w' ⟨rfl, rfl⟩
    go_wp2_with fail
    go_ret
    exact ⟨rfl, Kp.refl _ _⟩

end Go.Proofs.Ytngbodmooddjbaa
