/-
  Plain mathematics: numbers and their bits; ranges of numbers, bit by bit.
-/
import Derived.Test.YtgglkldoclejaaaDoorSt
namespace Go.Proofs.YtgglkldoclejaaaDoor

/-- The number whose bit i is g i, for i below k. -/
def bval (g : Nat → Bool) : Nat → Nat
  | 0 => 0
  | k + 1 => bval g k + if g k then 2 ^ k else 0
theorem bval_lt (g : Nat → Bool) : ∀ k, bval g k < 2 ^ k
  | 0 => by simp [bval]
  | k + 1 => by have := bval_lt g k; simp only [bval]; rw [Nat.pow_succ]; split <;> omega
theorem bval_congr {g h : Nat → Bool} : ∀ k, (∀ i, i < k → g i = h i) → bval g k = bval h k
  | 0, _ => rfl
  | k + 1, e => by simp only [bval]; rw [bval_congr k (fun i hi => e i (by omega)), e k (by omega)]
theorem mod_succ (x k : Nat) : x % 2 ^ (k + 1) = x % 2 ^ k + if x.testBit k then 2 ^ k else 0 := by
  rw [Nat.mod_pow_succ, Nat.testBit_eq_decide_div_mod_eq]
  have : x / 2 ^ k % 2 < 2 := Nat.mod_lt _ (by omega)
  by_cases h : x / 2 ^ k % 2 = 1
  · simp [h]
  · have h0 : x / 2 ^ k % 2 = 0 := by omega
    simp [h0]
theorem bval_testBit (x : Nat) : ∀ k, bval (fun i => x.testBit i) k = x % 2 ^ k
  | 0 => by simp [bval, Nat.mod_one]
  | k + 1 => by simp only [bval]; rw [bval_testBit x k, mod_succ]

/-- 'At least lo', bit by bit. -/
def aboveB (lo : Nat) (g : Nat → Bool) : Nat → Bool
  | 0 => true
  | k + 1 => if lo.testBit k then g k && aboveB lo g k else g k || aboveB lo g k
def belowB (hi : Nat) (g : Nat → Bool) : Nat → Bool
  | 0 => true
  | k + 1 => if hi.testBit k then !g k || belowB hi g k else !g k && belowB hi g k
theorem aboveB_eq (lo : Nat) (g : Nat → Bool) : ∀ k, aboveB lo g k = decide (lo % 2 ^ k ≤ bval g k)
  | 0 => by simp [aboveB, bval, Nat.mod_one]
  | k + 1 => by
    have ih := aboveB_eq lo g k
    have h1 := bval_lt g k
    have h2 : lo % 2 ^ k < 2 ^ k := Nat.mod_lt _ (Nat.pow_pos (by omega))
    simp only [aboveB, bval]
    rw [mod_succ, ih]
    rw [Bool.eq_iff_iff]
    by_cases hb : lo.testBit k = true <;> by_cases hg : g k = true <;> simp [hb, hg] <;> omega
theorem belowB_eq (hi : Nat) (g : Nat → Bool) : ∀ k, belowB hi g k = decide (bval g k ≤ hi % 2 ^ k)
  | 0 => by simp [belowB, bval, Nat.mod_one]
  | k + 1 => by
    have ih := belowB_eq hi g k
    have h1 := bval_lt g k
    have h2 : hi % 2 ^ k < 2 ^ k := Nat.mod_lt _ (Nat.pow_pos (by omega))
    simp only [belowB, bval]
    rw [mod_succ, ih]
    rw [Bool.eq_iff_iff]
    by_cases hb : hi.testBit k = true <;> by_cases hg : g k = true <;> simp [hb, hg] <;> omega

/-- Bits that count agree. -/
def wildB (addr mask : Nat) (g : Nat → Bool) : Nat → Bool
  | 0 => true
  | k + 1 => if mask.testBit k then wildB addr mask g k else (g k == addr.testBit k) && wildB addr mask g k
theorem wildB_iff (addr mask : Nat) (g : Nat → Bool) : ∀ k, wildB addr mask g k = true ↔ ∀ i, i < k → mask.testBit i = false → g i = addr.testBit i
  | 0 => by simp [wildB]
  | k + 1 => by
    have ih := wildB_iff addr mask g k
    simp only [wildB]
    by_cases hm : mask.testBit k
    · rw [if_pos hm, ih]
      constructor
      · intro h i hi hmi
        by_cases e : i = k
        · subst e; rw [hm] at hmi; cases hmi
        · exact h i (by omega) hmi
      · exact fun h i hi hmi => h i (by omega) hmi
    · rw [if_neg hm, Bool.and_eq_true, ih, beq_iff_eq]
      constructor
      · rintro ⟨h0, h⟩ i hi hmi
        by_cases e : i = k
        · subst e; exact h0
        · exact h i (by omega) hmi
      · exact fun h => ⟨h k (by omega) (by simpa using hm), fun i hi hmi => h i (by omega) hmi⟩

/-- The number with the bits h 0, h 1 .. h (b - 1), the first one the highest. -/
def hval (h : Nat → Bool) : Nat → Nat
  | 0 => 0
  | b + 1 => 2 * hval h b + if h b then 1 else 0
theorem hval_lt (h : Nat → Bool) : ∀ b, hval h b < 2 ^ b
  | 0 => by simp [hval]
  | b + 1 => by have := hval_lt h b; simp only [hval]; rw [Nat.pow_succ]; split <;> omega
theorem bval_low (f : Nat → Bool) : ∀ k, bval f (k + 1) = 2 * bval (fun i => f (i + 1)) k + if f 0 then 1 else 0
  | 0 => by simp [bval]
  | k + 1 => by
    have ih := bval_low f k
    have e : bval f (k + 1 + 1) = bval f (k + 1) + if f (k + 1) then 2 ^ (k + 1) else 0 := rfl
    have e2 : bval (fun i => f (i + 1)) (k + 1) = bval (fun i => f (i + 1)) k + if f (k + 1) then 2 ^ k else 0 := rfl
    rw [e, e2, ih, Nat.pow_succ]
    split <;> split <;> omega
theorem hval_eq (h : Nat → Bool) : ∀ b, hval h b = bval (fun i => h (b - 1 - i)) b
  | 0 => rfl
  | b + 1 => by
    rw [bval_low]
    simp only [hval]
    rw [hval_eq h b]
    have e : bval (fun i => h (b - 1 - i)) b = bval (fun i => h (b + 1 - 1 - (i + 1))) b := bval_congr b (fun i hi => by congr 1; omega)
    rw [e]
    rfl

end Go.Proofs.YtgglkldoclejaaaDoor
