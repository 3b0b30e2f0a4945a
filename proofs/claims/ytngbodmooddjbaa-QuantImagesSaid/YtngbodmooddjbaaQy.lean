/-
  Plain: the image of a set under a relation; numbers below 8 in three variables.
-/
import Derived.Test.YtngbodmooddjbaaQw
namespace Go.Proofs.Ytngbodmooddjbaa

/-- 'number', its first k bits. -/
def numF (v x : Nat) : Nat → Bfn
  | 0 => fun _ => true
  | k + 1 => fun a => numF v x k a && (if x.testBit k then a (v + k) else !a (v + k))
theorem numF_iff (v x : Nat) (a : Nat → Bool) : ∀ k, numF v x k a = true ↔ ∀ i, i < k → a (v + i) = x.testBit i
  | 0 => ⟨fun _ i h => by omega, fun _ => rfl⟩
  | k + 1 => by
    have ih := numF_iff v x a k
    simp only [numF]
    rw [Bool.and_eq_true, ih]
    constructor
    · rintro ⟨h1, h2⟩ i hi
      by_cases e : i = k
      · subst e
        cases hb : x.testBit i <;> rw [hb] at h2 <;> simpa using h2
      · exact h1 i (by omega)
    · intro h
      refine ⟨fun i hi => h i (by omega), ?_⟩
      have := h k (by omega)
      cases hb : x.testBit k <;> rw [hb] at this <;> simp [this]
def setF (xs : Nat → Nat) : Nat → Bfn
  | 0 => fun _ => false
  | i + 1 => fun a => setF xs i a || numF 0 (xs i) 3 a
theorem setF_iff (xs : Nat → Nat) (a : Nat → Bool) : ∀ m, setF xs m a = true ↔ ∃ i, i < m ∧ numF 0 (xs i) 3 a = true
  | 0 => ⟨fun h => by simp [setF] at h, fun ⟨i, h, _⟩ => by omega⟩
  | m + 1 => by
    have ih := setF_iff xs a m
    simp only [setF]
    rw [Bool.or_eq_true, ih]
    constructor
    · rintro (⟨i, h1, h2⟩ | h)
      · exact ⟨i, by omega, h2⟩
      · exact ⟨m, by omega, h⟩
    · rintro ⟨i, h1, h2⟩
      by_cases e : i = m
      · subst e; exact .inr h2
      · exact .inl ⟨i, by omega, h2⟩
def relF (p q : Nat → Nat) : Nat → Bfn
  | 0 => fun _ => false
  | i + 1 => fun a => relF p q i a || (numF 0 (p i) 3 a && numF 3 (q i) 3 a)
theorem relF_iff (p q : Nat → Nat) (a : Nat → Bool) : ∀ m, relF p q m a = true ↔ ∃ i, i < m ∧ numF 0 (p i) 3 a = true ∧ numF 3 (q i) 3 a = true
  | 0 => ⟨fun h => by simp [relF] at h, fun ⟨i, h, _⟩ => by omega⟩
  | m + 1 => by
    have ih := relF_iff p q a m
    simp only [relF]
    rw [Bool.or_eq_true, ih, Bool.and_eq_true]
    constructor
    · rintro (⟨i, h1, h2⟩ | h)
      · exact ⟨i, by omega, h2⟩
      · exact ⟨m, by omega, h⟩
    · rintro ⟨i, h1, h2⟩
      by_cases e : i = m
      · subst e; exact .inr h2
      · exact .inl ⟨i, by omega, h2⟩
def wantF (d : Nat → Bool) (p q : Nat → Nat) : Nat → Bfn
  | 0 => fun _ => false
  | i + 1 => if d (p i) then fun a => wantF d p q i a || numF 0 (q i) 3 a else wantF d p q i
theorem wantF_iff (d : Nat → Bool) (p q : Nat → Nat) (a : Nat → Bool) : ∀ m, wantF d p q m a = true ↔ ∃ i, i < m ∧ d (p i) = true ∧ numF 0 (q i) 3 a = true
  | 0 => ⟨fun h => by simp [wantF] at h, fun ⟨i, h, _⟩ => by omega⟩
  | m + 1 => by
    have ih := wantF_iff d p q a m
    simp only [wantF]
    cases hd : d (p m)
    · rw [if_neg (by simp), ih]
      constructor
      · rintro ⟨i, h1, h2⟩
        exact ⟨i, by omega, h2⟩
      · rintro ⟨i, h1, h2, h3⟩
        by_cases e : i = m
        · subst e; rw [hd] at h2; cases h2
        · exact ⟨i, by omega, h2, h3⟩
    · rw [if_pos rfl, Bool.or_eq_true, ih]
      constructor
      · rintro (⟨i, h1, h2⟩ | h)
        · exact ⟨i, by omega, h2⟩
        · exact ⟨m, by omega, hd, h⟩
      · rintro ⟨i, h1, h2, h3⟩
        by_cases e : i = m
        · subst e; exact .inr h3
        · exact .inl ⟨i, by omega, h2, h3⟩
/-- Which numbers are in the set. -/
def inS (xs : Nat → Nat) : Nat → Nat → Bool
  | 0 => fun _ => false
  | i + 1 => fun x => if x = xs i then true else inS xs i x
theorem inS_iff (xs : Nat → Nat) (x : Nat) : ∀ m, inS xs m x = true ↔ ∃ i, i < m ∧ xs i = x
  | 0 => ⟨fun h => by simp [inS] at h, fun ⟨i, h, _⟩ => by omega⟩
  | m + 1 => by
    have ih := inS_iff xs x m
    simp only [inS]
    by_cases e : x = xs m
    · rw [if_pos e]
      exact ⟨fun _ => ⟨m, by omega, e.symm⟩, fun _ => rfl⟩
    · rw [if_neg e, ih]
      constructor
      · rintro ⟨i, h1, h2⟩
        exact ⟨i, by omega, h2⟩
      · rintro ⟨i, h1, h2⟩
        by_cases e2 : i = m
        · subst e2; exact (e h2.symm).elim
        · exact ⟨i, by omega, h2⟩
theorem eq_bits8 {x y : Nat} (hx : x < 8) (hy : y < 8) (h : ∀ i, i < 3 → x.testBit i = y.testBit i) : x = y := by
  apply Nat.eq_of_testBit_eq
  intro i
  by_cases hi : i < 3
  · exact h i hi
  · have h8 : (2 : Nat) ^ 3 ≤ 2 ^ i := Nat.pow_le_pow_right (by omega) (by omega)
    rw [Nat.testBit_lt_two_pow (by omega), Nat.testBit_lt_two_pow (by omega)]
theorem image_law (xs p q : Nat → Nat) (m k : Nat) (hx : ∀ i, i < m → xs i < 8) (hp : ∀ i, i < k → p i < 8) (a : Nat → Bool) :
    rnF (rnT 6 [3, 4, 5] [0, 1, 2]) (exQ [0, 1, 2] fun a => relF p q k a && setF xs m a) a = wantF (inS xs m) p q k a := by
  have t3 : rnT 6 [3, 4, 5] [0, 1, 2] 3 = 0 := by decide +kernel
  have t4 : rnT 6 [3, 4, 5] [0, 1, 2] 4 = 1 := by decide +kernel
  have t5 : rnT 6 [3, 4, 5] [0, 1, 2] 5 = 2 := by decide +kernel
  have tt : ∀ i, i < 3 → rnT 6 [3, 4, 5] [0, 1, 2] (3 + i) = i := fun i hi => by
    have : i = 0 ∨ i = 1 ∨ i = 2 := by omega
    rcases this with rfl | rfl | rfl
    · exact t3
    · exact t4
    · exact t5
  have hi3 : ∀ (b c : Nat → Bool) (i : Nat), i < 3 → ovr [0, 1, 2] b c (0 + i) = b (0 + i) := fun b c i hi => by
    have : i = 0 ∨ i = 1 ∨ i = 2 := by omega
    rcases this with rfl | rfl | rfl <;> simp [ovr]
  have lo3 : ∀ (b c : Nat → Bool) (i : Nat), i < 3 → ovr [0, 1, 2] b c (3 + i) = c (3 + i) := fun b c i hi => by
    have : i = 0 ∨ i = 1 ∨ i = 2 := by omega
    rcases this with rfl | rfl | rfl <;> simp [ovr]
  rw [Bool.eq_iff_iff]
  unfold rnF
  rw [exQ_iff, wantF_iff]
  constructor
  · rintro ⟨b, hb⟩
    rw [Bool.and_eq_true, relF_iff, setF_iff] at hb
    obtain ⟨⟨j, hj, h1, h2⟩, i, hi, h3⟩ := hb
    rw [numF_iff] at h1 h2 h3
    refine ⟨j, hj, (inS_iff xs _ m).2 ⟨i, hi, eq_bits8 (hx i hi) (hp j hj) (fun u hu => by rw [← h3 u hu, ← h1 u hu])⟩, (numF_iff _ _ _ 3).2 (fun u hu => ?_)⟩
    have := h2 u hu
    rw [lo3 b _ u hu, tt u hu] at this
    rw [Nat.zero_add]; exact this
  · rintro ⟨j, hj, h1, h2⟩
    obtain ⟨i, hi, e⟩ := (inS_iff xs _ m).1 h1
    rw [numF_iff] at h2
    refine ⟨fun u => (p j).testBit u, ?_⟩
    rw [Bool.and_eq_true, relF_iff, setF_iff]
    refine ⟨⟨j, hj, (numF_iff _ _ _ 3).2 (fun u hu => ?_), (numF_iff _ _ _ 3).2 (fun u hu => ?_)⟩, i, hi, (numF_iff _ _ _ 3).2 (fun u hu => ?_)⟩
    · rw [hi3 _ _ u hu, Nat.zero_add]
    · rw [lo3 _ _ u hu, tt u hu]
      have := h2 u hu
      rw [Nat.zero_add] at this
      exact this
    · rw [hi3 _ _ u hu, e, Nat.zero_add]

end Go.Proofs.Ytngbodmooddjbaa
