/-
  Truth tables: what the functions of the reference netverifyref26 return.
-/
import Derived.Test.YtgglkldoclejaaaDoorW10
namespace Go.Proofs.YtgglkldoclejaaaDoor
open Go.RowKit

/-- The assignment that is the bits of i. -/
def bitsOf (i : Nat) : Nat → Bool := fun v => i.testBit v
/-- The truth table of a function of n variables. -/
def tab (n : Nat) (F : (Nat → Bool) → Bool) : List Bool := (List.range (2 ^ n)).map fun i => F (bitsOf i)

@[simp] theorem tab_length (n : Nat) (F : (Nat → Bool) → Bool) : (tab n F).length = 2 ^ n := by simp [tab]
theorem tab_get {n i : Nat} (F : (Nat → Bool) → Bool) (h : i < 2 ^ n) : (tab n F)[i]? = some (F (bitsOf i)) := by simp [tab, h]

theorem pow_le_64 {n : Nat} (h : n ≤ 6) : 2 ^ n ≤ 64 := by
  have := Nat.pow_le_pow_right (n := 2) (by omega) h
  omega

/-- The row while it is filled: the first k cells are done. -/
def fill (N : Nat) (r : Nat → Bool) (k : Nat) : List Value := (List.range N).map fun i => .bool (if i < k then r i else false)
theorem fill_len (N : Nat) (r : Nat → Bool) (k : Nat) : (fill N r k).length = N := by simp [fill]
theorem fill_set {N k : Nat} (r : Nat → Bool) (h : k < N) : (fill N r k).set k (.bool (r k)) = fill N r (k + 1) := by
  apply List.ext_getElem?
  intro j
  rw [List.getElem?_set]
  by_cases e : k = j
  · subst e
    simp [fill, h]
  · rw [if_neg e]
    simp only [fill, List.getElem?_map]
    by_cases hj : j < N
    · simp only [List.getElem?_range hj, Option.map_some]
      by_cases h1 : j < k
      · rw [if_pos h1, if_pos (by omega)]
      · rw [if_neg h1, if_neg (by omega)]
    · rw [List.getElem?_eq_none (by simp; omega)]; rfl
theorem fill_zero (N : Nat) (r : Nat → Bool) : fill N r 0 = List.replicate N (.bool false) := by
  apply List.ext_getElem?
  intro j
  simp only [fill, List.getElem?_map, List.getElem?_replicate]
  by_cases hj : j < N
  · simp [hj]
  · rw [if_neg hj, List.getElem?_eq_none (by simp; omega)]; rfl
theorem fill_done (n : Nat) (F : (Nat → Bool) → Bool) : fill (2 ^ n) (fun i => F (bitsOf i)) (2 ^ n) = (tab n F).map .bool := by
  apply List.ext_getElem?
  intro j
  simp only [fill, tab, List.getElem?_map]
  by_cases hj : j < 2 ^ n
  · simp [hj]
  · rw [List.getElem?_eq_none (by simp; omega)]; rfl

theorem made_false (n : Nat) : (madeCells (Value.bool false).cells (n * 1)).toList = List.replicate n (.bool false) := by
  apply List.ext_getElem?
  intro j
  simp only [madeCells, Nat.mul_one, Array.getElem?_toList, List.getElem?_replicate]
  by_cases hj : j < n
  · simp [hj, Value.cells, Nat.mod_one]
  · simp [hj]

/-- A store into an owned row, at any base. -/
theorem ownsRow_put {w : World} {base e size n : Nat} {g cap : Nat} {xs : List Value} (h : w.ownsRow base e size (.slice (some ⟨g, 0, none⟩) n cap) n xs) (i : Nat) (v : Value) :
    (w.setCell ⟨g, i, none⟩ v).ownsRow base e size (.slice (some ⟨g, 0, none⟩) n cap) n (xs.set i v) := by
  refine ⟨by rw [List.length_set]; exact h.1, ?_⟩
  rcases h.2 with ⟨hx, _⟩ | ⟨g', cap', cur, hv, hb, hg, h1, h2, h3, h4⟩
  · cases hx
  · cases hv
    exact .inr ⟨g, cap, _, rfl, hb, setCell_heap hg v, h1, h2, by simpa using h3, take_set_row h4 v rfl⟩

/-- A table in memory. -/
def Tb (B : Nat) (w : World) (v : Value) (t : List Bool) : Prop := w.ownsRow B 4 1 v t.length (t.map .bool)

theorem Tb.kp {A : Nat → Prop} {B : Nat} {w w' : World} {v : Value} {t : List Bool} (h : Tb B w v t) (hk : Kp A w w') (hn : ∀ k, v.ownBlock = some k → ¬ A k) : Tb B w' v t := ownsRow_kp h hk hn
theorem Tb.no {B : Nat} {w w' : World} {v : Value} {t : List Bool} (h : Tb B w v t) (hk : Kp No w w') : Tb B w' v t := h.kp hk (fun _ _ x => x)
theorem Tb.mono {B B' : Nat} {w : World} {v : Value} {t : List Bool} (h : Tb B w v t) (hb : B' ≤ B) : Tb B' w v t := by
  refine ⟨h.1, ?_⟩
  rcases h.2 with x | ⟨g, cap, cur, hv, hg, r⟩
  · exact .inl x
  · exact .inr ⟨g, cap, cur, hv, Nat.le_trans hb hg, r⟩
theorem Tb.bools {B : Nat} {w : World} {v : Value} {t : List Bool} (h : Tb B w v t) : Bools w v t := Bools.of_row h

/-- What is known of a table that is not empty. -/
theorem Tb.open {B : Nat} {w : World} {v : Value} {t : List Bool} (h : Tb B w v t) (h0 : 0 < t.length) : ∃ g c, v = .slice (some ⟨g, 0, none⟩) t.length c ∧ t.length ≤ 9223372036854775807 ∧ B ≤ g ∧ g < w.heap.size ∧
    ∀ i b, t[i]? = some b → w.cell? ⟨g, i, none⟩ = some (.bool b) := by
  obtain ⟨g, cap, hv, h1, h2, _, hc, _⟩ := ownsRow_open h h0
  have := maxLen_val
  have hl := h.lt g (by rw [hv]; rfl)
  exact ⟨g, cap, hv, by omega, hl.1, hl.2, fun i b hi => hc i _ (by simp [hi])⟩

/-- What a function of the reference leaves: a new table. -/
def TPost (w : World) (t : List Bool) (e : Ending) (w' : World) : Prop := ∃ v, e = .returned v ∧ Tb w.heap.size w' v t ∧ Kp No w w'

/-- The state while a table is filled. -/
structure FillJ (w : World) (g N : Nat) (r : Nat → Bool) (k : Nat) (wr : World) : Prop where
  row : wr.ownsRow w.heap.size 4 1 (.slice (some ⟨g, 0, none⟩) N N) N (fill N r k)
  kp : Kp No w wr

theorem FillJ.ge {w : World} {g N : Nat} {r : Nat → Bool} {k : Nat} {wr : World} (j : FillJ w g N r k wr) : w.heap.size ≤ g ∧ g < wr.heap.size := j.row.lt g rfl
theorem FillJ.cell {w : World} {g N : Nat} {r : Nat → Bool} {k : Nat} {wr : World} (j : FillJ w g N r k wr) (hk : k < N) : wr.cell? ⟨g, k, none⟩ = some (.bool false) ∧ wr.frozen? ⟨g, k, none⟩ = false := by
  obtain ⟨g', c, hv, _, _, _, hc, hz⟩ := ownsRow_open j.row (by omega)
  cases hv
  exact ⟨hc k _ (by simp [fill, hk]), hz k⟩
theorem FillJ.put {w : World} {g N : Nat} {r : Nat → Bool} {k : Nat} {wr : World} (j : FillJ w g N r k wr) (hk : k < N) : FillJ w g N r (k + 1) (wr.setCell ⟨g, k, none⟩ (.bool (r k))) := by
  refine ⟨?_, ?_⟩
  · have := ownsRow_put j.row k (.bool (r k))
    rw [fill_set r hk] at this
    exact this
  · exact j.kp.trans (A' := fun x => x = g) (fun x e => .inr (by rw [e]; exact j.ge.1)) ((Kp.setCell _ _).mono (fun _ _ e => e))
theorem FillJ.start {w w1 : World} {N : Nat} (r : Nat → Bool) (h : w1.ownsRow w.heap.size 4 1 (.slice (some ⟨w.heap.size, 0, none⟩) N N) N (madeCells (Value.bool false).cells (N * 1)).toList) (hg : w.grownBy w1 none) :
    FillJ w w.heap.size N r 0 w1 := by
  rw [made_false, ← fill_zero N r] at h
  exact ⟨h, (Kp.grown hg).mono (fun k _ e => by cases e)⟩
theorem FillJ.done {w : World} {g n : Nat} {F : (Nat → Bool) → Bool} {wr : World} (j : FillJ w g (2 ^ n) (fun i => F (bitsOf i)) (2 ^ n) wr) : TPost w (tab n F) (.returned (.slice (some ⟨g, 0, none⟩) (2 ^ n) (2 ^ n))) wr := by
  refine ⟨_, rfl, ?_, j.kp⟩
  have := j.row
  rw [fill_done] at this
  unfold Tb
  rw [tab_length]
  exact this

def FillR (w : World) (g N : Nat) (r : Nat → Bool) (gk : Nat) (s : Value) (wr : World) : Prop := ∃ k, k + gk = N ∧ s = .int .i64 (k : Int) ∧ FillJ w g N r k wr

theorem shl_pow {n : Nat} (h : n ≤ 6) : wrap64 ((2 : Int) ^ n) = ((2 ^ n : Nat) : Int) := by
  have := pow_le_64 h
  rw [show ((2 : Int) ^ n) = ((2 ^ n : Nat) : Int) by simp]
  generalize 2 ^ n = m at *
  exact IntWalk.wrap64_in _ ⟨by omega, by omega⟩

theorem setCell_twice (w : World) (g i : Nat) (u v : Value) : (w.setCell ⟨g, i, none⟩ u).setCell ⟨g, i, none⟩ v = w.setCell ⟨g, i, none⟩ v := by
  unfold World.setCell
  simp only [Option.isSome_none, Bool.false_eq_true, if_false]
  congr 1
  apply Array.ext_getElem?
  intro j
  simp only [Array.getElem?_modify]
  split
  · rename_i e
    subst e
    cases w.heap[g]? with
    | none => rfl
    | some o => cases o <;> simp
  · rfl

theorem bit_fin : ∀ i : Fin 64, ∀ v : Fin 6, (bits BinOp.and IntKind.i64 ((i.val : Int) / 2 ^ v.val) 1 == 1) = i.val.testBit v.val := by decide +kernel
theorem bit_at {i v : Nat} (hi : i < 64) (hv : v < 6) : (bits BinOp.and IntKind.i64 ((i : Int) / 2 ^ v) 1 == 1) = i.testBit v := bit_fin ⟨i, hi⟩ ⟨v, hv⟩

/-- A cell of a table, in a world in which only new blocks have been written. -/
theorem Tb.cellAt {B : Nat} {w wr : World} {g c : Nat} {n : Nat} {F : (Nat → Bool) → Bool} (h : Tb B w (.slice (some ⟨g, 0, none⟩) (2 ^ n) c) (tab n F)) (kp : Kp No w wr) {i : Nat} (hi : i < 2 ^ n) :
    wr.cell? ⟨g, i, none⟩ = some (.bool (F (bitsOf i))) := by
  obtain ⟨g', c', hv, _, _, _, hc⟩ := (h.no kp).open (by rw [tab_length]; exact Nat.pow_pos (by omega))
  simp only [Value.slice.injEq, Option.some.injEq, Addr.mk.injEq] at hv
  obtain ⟨⟨rfl, _⟩, _⟩ := hv
  exact hc i _ (tab_get F hi)

theorem Tb.form {B : Nat} {w : World} {v : Value} {n : Nat} {F : (Nat → Bool) → Bool} (h : Tb B w v (tab n F)) : ∃ g c, v = .slice (some ⟨g, 0, none⟩) (2 ^ n) c ∧ g < w.heap.size := by
  obtain ⟨g, c, hv, _, _, hl, _⟩ := h.open (by rw [tab_length]; exact Nat.pow_pos (by omega))
  rw [tab_length] at hv
  exact ⟨g, c, hv, hl⟩

/-! ### Restrict -/
def clr (i v : Nat) : Nat := if i.testBit v then i - 2 ^ v else i
def sbt (i v : Nat) : Nat := if i.testBit v then i else i + 2 ^ v
theorem clr_fin : ∀ i : Fin 64, ∀ v : Fin 6, bits BinOp.andNot IntKind.i64 (i.val : Int) ((2 : Int) ^ v.val) = (clr i.val v.val : Int) ∧ bits BinOp.or IntKind.i64 (i.val : Int) ((2 : Int) ^ v.val) = (sbt i.val v.val : Int) := by decide +kernel
theorem clr_bit : ∀ i : Fin 64, ∀ v u : Fin 6, (clr i.val v.val).testBit u.val = (if u.val = v.val then false else i.val.testBit u.val) ∧ (sbt i.val v.val).testBit u.val = (if u.val = v.val then true else i.val.testBit u.val) := by decide +kernel
theorem clr_lt : ∀ n : Fin 7, ∀ i : Fin 64, ∀ v : Fin 6, v.val < n.val → i.val < 2 ^ n.val → clr i.val v.val < 2 ^ n.val ∧ sbt i.val v.val < 2 ^ n.val := by decide +kernel

/-- The index with one bit set or cleared. -/
def fixb (i v : Nat) (b : Bool) : Nat := if b then sbt i v else clr i v
theorem fix_lt {n i v : Nat} (hn : n ≤ 6) (hv : v < n) (hi : i < 2 ^ n) (b : Bool) : fixb i v b < 2 ^ n := by
  have := pow_le_64 hn
  have h := clr_lt ⟨n, by omega⟩ ⟨i, by omega⟩ ⟨v, by omega⟩ hv hi
  unfold fixb; cases b
  · exact h.1
  · exact h.2
theorem fix_bits {n i v : Nat} (hn : n ≤ 6) (hv : v < n) (hi : i < 2 ^ n) (b : Bool) (u : Nat) (hu : u < n) : bitsOf (fixb i v b) u = Mgr.upd (bitsOf i) v b u := by
  have := pow_le_64 hn
  have h := clr_bit ⟨i, by omega⟩ ⟨v, by omega⟩ ⟨u, by omega⟩
  unfold fixb bitsOf Mgr.upd
  cases b
  · exact h.1
  · exact h.2

/-- F reads the first n variables alone. -/
def Upto (n : Nat) (F : (Nat → Bool) → Bool) : Prop := ∀ a b : Nat → Bool, (∀ v, v < n → a v = b v) → F a = F b

end Go.Proofs.YtgglkldoclejaaaDoor
