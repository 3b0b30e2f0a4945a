/-
  Plain mathematics: prefixes as wildcards and as ranges.
-/
import Derived.Test.YtgglkldoclejaaaDoorAd
namespace Go.Proofs.YtgglkldoclejaaaDoor
open Go.RowKit

theorem bval_testbit (g : Nat → Bool) : ∀ k i, i < k → (bval g k).testBit i = g i
  | 0, _, h => by omega
  | k + 1, i, h => by
    have hb := bval_lt g k
    by_cases e : i = k
    · subst e
      simp only [bval]
      cases hg : g i
      · simp only [Bool.false_eq_true, if_false, Nat.add_zero]; exact Nat.testBit_lt_two_pow hb
      · simp only [if_true]
        rw [Nat.add_comm, Nat.testBit_two_pow_add_eq, Nat.testBit_lt_two_pow hb]; rfl
    · have ih := bval_testbit g k i (by omega)
      simp only [bval]
      cases hg : g k
      · simp only [Bool.false_eq_true, if_false, Nat.add_zero]; exact ih
      · simp only [if_true]
        rw [Nat.add_comm, Nat.testBit_two_pow_add_gt (by omega), ih]

theorem nt_mk {c : Nat} (hc : c ≤ 32) : ntN (mkN c) = 2 ^ (32 - c) - 1 := by
  have hp : 2 ^ (32 - c) ≤ 2 ^ 32 := Nat.pow_le_pow_right (by omega) (by omega)
  have hp0 : 0 < 2 ^ (32 - c) := Nat.pow_pos (by omega)
  refine eq_of_bits (ntN_lt _) (by omega) (fun i hi => ?_)
  rw [ntN_bit _ hi, mkN_bit hc hi, Nat.testBit_two_pow_sub_one, Bool.eq_iff_iff]
  simp
  omega
theorem cz_mk {c : Nat} (hc : c ≤ 32) : ∀ j, j ≤ 32 → cz (ntN (mkN c)) j = j - (32 - c)
  | 0, _ => by simp [cz]
  | j + 1, h => by
    have ih := cz_mk hc j (by omega)
    simp only [cz]
    rw [ih, ntN_bit _ (by omega), mkN_bit hc (by omega)]
    by_cases hj : 32 - c ≤ j
    · simp [hj]; omega
    · simp [hj]; omega

/-- A valid prefix has no bits behind its length. -/
theorem pv_bits {ad : Nat} {ln : Int} (hv : pvB ad ln = true) : (0 ≤ ln ∧ ln ≤ 32) ∧ ∀ i, i < 32 → ad.testBit i = true → (mkN (clI ln)).testBit i = true := by
  unfold pvB at hv
  simp only [Bool.and_eq_true, decide_eq_true_eq, beq_iff_eq] at hv
  refine ⟨hv.1, fun i hi h => ?_⟩
  have h0 : andn ad (mkN (clI ln)) = 0 := by omega
  have := andn_bit ad (mkN (clI ln)) hi
  rw [h0, h] at this
  simp at this
  exact this
theorem ct_iff {ad : Nat} {ln : Int} (had : ad < 4294967296) (hv : pvB ad ln = true) {z : Nat} (hz : z < 4294967296) : ctB ad ln z = true ↔ ∀ i, i < 32 → (ntN (mkN (clI ln))).testBit i = false → z.testBit i = ad.testBit i := by
  obtain ⟨_, hb⟩ := pv_bits hv
  unfold ctB
  rw [beq_iff_eq]
  have hlt : z &&& mkN (clI ln) < 4294967296 := Nat.lt_of_le_of_lt Nat.and_le_left hz
  constructor
  · intro h i hi hm
    have h' : z &&& mkN (clI ln) = ad := by omega
    rw [ntN_bit _ hi] at hm
    rw [← h', Nat.testBit_and]
    simp at hm
    rw [hm]; simp
  · intro h
    have : z &&& mkN (clI ln) = ad := eq_of_bits hlt had (fun i hi => by
      rw [Nat.testBit_and]
      cases hm : (mkN (clI ln)).testBit i
      · rw [Bool.and_false]
        cases ha : ad.testBit i
        · rfl
        · rw [hb i hi ha] at hm; cases hm
      · rw [h i hi (by rw [ntN_bit _ hi, hm]; rfl)]; simp)
    rw [this]

/-- A prefix is a range. -/
theorem rg_iff {ad : Nat} {ln : Int} (had : ad < 4294967296) (hv : pvB ad ln = true) {z : Nat} (hz : z < 4294967296) : (ad ≤ z ∧ z ≤ lsN ad ln) ↔ ∀ i, i < 32 → (ntN (mkN (clI ln))).testBit i = false → z.testBit i = ad.testBit i := by
  obtain ⟨_, hb⟩ := pv_bits hv
  have hc := clI_le ln
  have hn := nt_mk hc
  have hp : 0 < 2 ^ (32 - clI ln) := Nat.pow_pos (by omega)
  have low : ad % 2 ^ (32 - clI ln) = 0 := by
    apply Nat.eq_of_testBit_eq
    intro i
    rw [Nat.testBit_mod_two_pow, Nat.zero_testBit]
    by_cases hi : i < 32 - clI ln
    · cases ha : ad.testBit i
      · simp
      · have := hb i (by omega) ha
        rw [mkN_bit hc (by omega)] at this
        simp at this
        omega
    · simp [hi]
  have hls : lsN ad ln = ad + (2 ^ (32 - clI ln) - 1) := by
    unfold lsN
    rw [hn]
    have hq : ad = 2 ^ (32 - clI ln) * (ad / 2 ^ (32 - clI ln)) := by have := Nat.div_add_mod ad (2 ^ (32 - clI ln)); omega
    have := Nat.two_pow_add_eq_or_of_lt (i := 32 - clI ln) (b := 2 ^ (32 - clI ln) - 1) (by omega) (ad / 2 ^ (32 - clI ln))
    rw [← hq] at this
    exact this.symm
  rw [hls]
  have div : (ad ≤ z ∧ z ≤ ad + (2 ^ (32 - clI ln) - 1)) ↔ z / 2 ^ (32 - clI ln) = ad / 2 ^ (32 - clI ln) := by
    have h1 := Nat.div_add_mod ad (2 ^ (32 - clI ln))
    have h2 := Nat.div_add_mod z (2 ^ (32 - clI ln))
    have h3 := Nat.mod_lt z hp
    rw [low, Nat.add_zero] at h1
    generalize 2 ^ (32 - clI ln) = P at *
    generalize ad / P = A at *
    generalize z / P = Z at *
    generalize z % P = zr at *
    constructor
    · rintro ⟨a1, a2⟩
      have b1 : P * A < P * (Z + 1) := by rw [Nat.mul_add, Nat.mul_one]; omega
      have b2 : P * Z < P * (A + 1) := by rw [Nat.mul_add, Nat.mul_one]; omega
      have c1 := Nat.lt_of_mul_lt_mul_left b1
      have c2 := Nat.lt_of_mul_lt_mul_left b2
      omega
    · intro e
      subst e
      omega
  rw [div]
  constructor
  · intro h i hi hm
    rw [hn, Nat.testBit_two_pow_sub_one] at hm
    have hge : 32 - clI ln ≤ i := by simpa using hm
    have e1 : z.testBit i = (z / 2 ^ (32 - clI ln)).testBit (i - (32 - clI ln)) := by rw [Nat.testBit_div_two_pow]; congr 1; omega
    have e2 : ad.testBit i = (ad / 2 ^ (32 - clI ln)).testBit (i - (32 - clI ln)) := by rw [Nat.testBit_div_two_pow]; congr 1; omega
    rw [e1, e2, h]
  · intro h
    apply Nat.eq_of_testBit_eq
    intro i
    rw [Nat.testBit_div_two_pow, Nat.testBit_div_two_pow]
    by_cases hi : i + (32 - clI ln) < 32
    · exact h _ hi (by rw [hn, Nat.testBit_two_pow_sub_one]; simp)
    · have hpw : 4294967296 ≤ 2 ^ (i + (32 - clI ln)) := by
        have : 2 ^ 32 ≤ 2 ^ (i + (32 - clI ln)) := Nat.pow_le_pow_right (by omega) (by omega)
        omega
      rw [Nat.testBit_lt_two_pow (by omega), Nat.testBit_lt_two_pow (by omega)]

/-- The set of a prefix, as a range. -/
theorem pfx_range {k : Nat} {nx : Bool} (hk : k < 2) {ad : Nat} {ln : Int} (had : ad < 4294967296) (hv : pvB ad ln = true) (a : Nat → Bool) : wiF k nx ad (ntN (mkN (clI ln))) 32 a = rgF k nx ad (lsN ad ln) a := by
  have hf : fw k = 32 := by rcases (show k = 0 ∨ k = 1 by omega) with rfl | rfl <;> rfl
  have hz : fval k nx a < 4294967296 := fval_u32 _ _ _
  unfold rgF
  rw [Bool.eq_iff_iff, decide_eq_true_eq, rg_iff had hv hz]
  show wildB _ _ _ _ = true ↔ _
  rw [wildB_iff]
  have e : ∀ i, i < 32 → (fval k nx a).testBit i = fbit k nx a i := fun i hi => by
    unfold fval
    rw [hf]
    have := bval_testbit (fbit k nx a) 32 i hi
    exact this
  constructor
  · intro h i hi hm; rw [e i hi]; exact h i hi hm
  · intro h i hi hm; rw [← e i hi]; exact h i hi hm

end Go.Proofs.YtgglkldoclejaaaDoor
