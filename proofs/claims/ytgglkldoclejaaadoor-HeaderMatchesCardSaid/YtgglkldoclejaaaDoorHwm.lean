/-
  Plain mathematics: wildcards as conjunctions of literals, their sizes; bits of 'x &^ m'.
-/
import Derived.Test.YtgglkldoclejaaaDoorHw6
import Derived.Test.YtgglkldoclejaaaDoorCube
namespace Go.Proofs.YtgglkldoclejaaaDoor
open Go.RowKit

theorem eq_of_bits {a b : Nat} (ha : a < 4294967296) (hb : b < 4294967296) (h : ∀ i, i < 32 → a.testBit i = b.testBit i) : a = b := by
  apply Nat.eq_of_testBit_eq
  intro i
  by_cases hi : i < 32
  · exact h i hi
  · have hp : 4294967296 ≤ 2 ^ i := by
      have : 2 ^ 32 ≤ 2 ^ i := Nat.pow_le_pow_right (by omega) (by omega)
      omega
    rw [Nat.testBit_lt_two_pow (by omega), Nat.testBit_lt_two_pow (by omega)]

/-- 'a &^ m'. -/
def andn (a m : Nat) : Nat := (BitVec.ofNat 32 a &&& ~~~ BitVec.ofNat 32 m).toNat
theorem andn_lt (a m : Nat) : andn a m < 4294967296 := (BitVec.ofNat 32 a &&& ~~~ BitVec.ofNat 32 m).isLt
theorem andn_bit (a m : Nat) {i : Nat} (hi : i < 32) : (andn a m).testBit i = (a.testBit i && !m.testBit i) := by
  unfold andn
  rw [BitVec.testBit_toNat, BitVec.getLsbD_and, BitVec.getLsbD_not, BitVec.getLsbD_ofNat, BitVec.getLsbD_ofNat]
  simp [hi]
theorem bits_andn (a m : Nat) : bits BinOp.andNot IntKind.u32 (a : Int) (m : Int) = (andn a m : Int) := by
  unfold bits andn
  simp only [BitVec.ofInt_natCast]
  rw [IntKind.wrap_u32]
  have := andn_lt a m
  unfold andn at this
  show ((BitVec.ofNat 32 a &&& ~~~ BitVec.ofNat 32 m).toNat : Int) % 4294967296 = _
  omega

/-- The literals of a wildcard. -/
def wlits (k : Nat) (nx : Bool) (ad ma : Nat) : Nat → List Lit2
  | 0 => []
  | j + 1 => if ma.testBit j then wlits k nx ad ma j else (fvar k (fw k - 1 - j) nx, ad.testBit j) :: wlits k nx ad ma j
def cz (ma : Nat) : Nat → Nat
  | 0 => 0
  | j + 1 => cz ma j + if ma.testBit j then 0 else 1
theorem cz_le (ma : Nat) : ∀ j, cz ma j ≤ j
  | 0 => Nat.le_refl _
  | j + 1 => by have := cz_le ma j; simp only [cz]; split <;> omega
theorem wlits_eq (k : Nat) (nx : Bool) (ad ma : Nat) (a : Nat → Bool) : ∀ j, wiF k nx ad ma j a = cubeF (wlits k nx ad ma j) a
  | 0 => rfl
  | j + 1 => by
    have ih := wlits_eq k nx ad ma a j
    show wildB _ _ _ _ = _
    simp only [wildB, wlits]
    split
    · exact ih
    · have e : cubeF ((fvar k (fw k - 1 - j) nx, ad.testBit j) :: wlits k nx ad ma j) a = ((a (fvar k (fw k - 1 - j) nx) == ad.testBit j) && cubeF (wlits k nx ad ma j) a) := by simp [cubeF]
      rw [e, ← ih]; rfl
theorem wlits_mem (k : Nat) (nx : Bool) (ad ma : Nat) : ∀ j x, x ∈ wlits k nx ad ma j → ∃ i, i < j ∧ x = (fvar k (fw k - 1 - i) nx, ad.testBit i)
  | 0, x, h => by simp [wlits] at h
  | j + 1, x, h => by
    simp only [wlits] at h
    split at h
    · obtain ⟨i, hi, e⟩ := wlits_mem k nx ad ma j x h
      exact ⟨i, by omega, e⟩
    · rcases List.mem_cons.1 h with rfl | h
      · exact ⟨j, by omega, rfl⟩
      · obtain ⟨i, hi, e⟩ := wlits_mem k nx ad ma j x h
        exact ⟨i, by omega, e⟩
theorem fvar_inj {k i j : Nat} {nx : Bool} (hi : i < fw k) (hj : j < fw k) (h : fvar k (fw k - 1 - i) nx = fvar k (fw k - 1 - j) nx) : i = j := by
  rw [fvar_eq, fvar_eq] at h; omega
theorem wlits_vars (k : Nat) (nx : Bool) (ad ma : Nat) : ∀ j, j ≤ fw k → (varsOf (wlits k nx ad ma j)).length = cz ma j
  | 0, _ => rfl
  | j + 1, h => by
    have ih := wlits_vars k nx ad ma j (by omega)
    simp only [wlits, cz]
    split
    · exact ih
    · have hn : fvar k (fw k - 1 - j) nx ∉ varsOf (wlits k nx ad ma j) := fun hm => by
        obtain ⟨b, hb⟩ := (varsOf_mem _ _).1 hm
        obtain ⟨i, hi, e⟩ := wlits_mem k nx ad ma j _ hb
        have := fvar_inj (nx := nx) (show j < fw k by omega) (show i < fw k by omega) (congrArg Prod.fst e)
        omega
      have e : varsOf ((fvar k (fw k - 1 - j) nx, ad.testBit j) :: wlits k nx ad ma j) = fvar k (fw k - 1 - j) nx :: varsOf (wlits k nx ad ma j) := by
        show (if _ then _ else _) = _
        rw [if_neg hn]
      rw [e, List.length_cons, ih]
theorem wlits_consis (k : Nat) (nx : Bool) (ad ma : Nat) {j : Nat} (hj : j ≤ fw k) : Consis (wlits k nx ad ma j) := by
  rintro v ⟨h1, h2⟩
  obtain ⟨i, hi, e⟩ := wlits_mem k nx ad ma j _ h1
  obtain ⟨i', hi', e'⟩ := wlits_mem k nx ad ma j _ h2
  have : i = i' := fvar_inj (k := k) (nx := nx) (by omega) (by omega) ((congrArg Prod.fst e).symm.trans (congrArg Prod.fst e'))
  subst this
  have a := congrArg Prod.snd e
  have b := congrArg Prod.snd e'
  simp only at a b
  rw [← a] at b; cases b

/-- The size of a wildcard's diagram. -/
theorem wild_size {c : Nat} {M : Mgr} {B : List (Int × Bfn)} {r : Int} {k : Nat} {nx : Bool} {ad ma : Nat} (hk : k < 5) (q : Qk 220 c M B) (h : (r, wiF k nx ad ma (fw k)) ∈ B) : M.sizeM r = cz ma (fw k) := by
  obtain ⟨hv, hs⟩ := q.at h
  have hs' : ∀ a, M.sem r.toNat a = cubeF (wlits k nx ad ma (fw k)) a := fun a => by rw [hs, wlits_eq]
  obtain ⟨n, rfl, sn, _⟩ := Mgr.valid_nat q.wf hv
  rw [Int.toNat_natCast] at hs'
  unfold Mgr.sizeM
  rw [if_pos hv, Int.toNat_natCast]
  have e2 := Mgr.size_supp q.wf sn (by
    have : M.sem n = cubeF (wlits k nx ad ma (fw k)) := funext hs'
    rw [this]; exact cube_one M _)
  rw [e2, cube_supp q.wf sn hs' (fun x hx => by
    obtain ⟨i, hi, rfl⟩ := wlits_mem k nx ad ma _ x hx
    rw [q.nn]; exact fvar_lt hk (by omega) nx) (wlits_consis k nx ad ma (Nat.le_refl _)), wlits_vars k nx ad ma _ (Nat.le_refl _)]

/-- Which packets match. -/
theorem wild_enc (dn : Nat → Bool) (p q : Pkt) {k : Nat} (hk : k < 5) (nx : Bool) (ad ma : Nat) : wiF k nx ad ma (fw k) (asg (gL (encF dn p q))) = true ↔ ∀ i, i < fw k → ma.testBit i = false → ((if nx then q else p).f k).testBit i = ad.testBit i := by
  show wildB _ _ _ _ = true ↔ _
  rw [wildB_iff]
  have e : ∀ i, i < fw k → fbit k nx (asg (gL (encF dn p q))) i = ((if nx then q else p).f k).testBit i := fun i hi => by
    unfold fbit
    rw [gL_at _ (fvar_lt hk (by omega) nx)]
    unfold fvar
    rw [enc_bit, Pkt.bit_at _ hk (by omega)]
    congr 1
    omega
  constructor
  · intro h i hi hm; rw [← e i hi]; exact h i hi hm
  · intro h i hi hm; rw [e i hi]; exact h i hi hm

end Go.Proofs.YtgglkldoclejaaaDoor
