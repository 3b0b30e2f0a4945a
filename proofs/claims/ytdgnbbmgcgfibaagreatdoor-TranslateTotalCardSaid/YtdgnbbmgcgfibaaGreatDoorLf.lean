/-
  A value as its reader sees it, down to its cells: flat structs, slices of them, slices of structs that hold slices; a router.
-/
import Derived.Test.YtdgnbbmgcgfibaaGreatDoorRunJ
namespace Go.Proofs.YtdgnbbmgcgfibaaGreatDoor
open Go.ChangeShapes Go.WideShapes Go.ChangeAt Go.RowKit Go.Deep

/-- The type of the cell at place j of a value of the type. -/
def leafT (P : Program) : Nat → TypeId → Nat → Option TypeId
  | 0, _, _ => none
  | n + 1, t, j => match P.underlying t with
    | some (.struct fs) => match fs.toList.find? (fun f => decide (f.offset ≤ j ∧ j < f.offset + P.cellsOf f.type)) with
      | some f => leafT P n f.type (j - f.offset)
      | none => none
    | some (.int _) => if j = 0 then some t else none
    | some .string => if j = 0 then some t else none
    | some .bool => if j = 0 then some t else none
    | some (.slice _) => if j = 0 then some t else none
    | _ => none

section
variable {H : Type} {enc : TypeId × Value → H} {P : Program} {w : World} {base : Nat} {spare : Nat → Bool} {held : Bool}
theorem leaf_trod : ∀ (n : Nat) {t u : TypeId} {j fuel : Nat} {cs : List Value} {x : DataW H × List MemPlace}, leafT P n t j = some u → DataW.trod enc P w base spare held fuel t cs = some x → ∃ c y fuel', cs[j]? = some c ∧ DataW.trod enc P w base spare held fuel' u [c] = some y
  | 0, _, _, _, _, _, _, h, _ => by simp [leafT] at h
  | n + 1, t, u, j, fuel, cs, x, h, hd => by
    unfold leafT at h
    split at h
    · rename_i fs ht
      split at h
      · rename_i f hf
        have hc := List.find?_some hf
        have hm := List.mem_of_find?_eq_some hf
        simp only [decide_eq_true_eq] at hc
        obtain ⟨i, hi, rfl⟩ := List.getElem_of_mem hm
        obtain ⟨xs, m, _, _, hl, hlen, hg⟩ := DataW.trod_struct ht hd
        have hi' : i < fs.size := by simpa using hi
        have hx := hg i fs[i] (by simp [hi'])
        rw [List.getElem?_eq_getElem (by omega)] at hx
        simp only [Array.getElem_toList] at h hc
        obtain ⟨c, y, fuel', h1, h2⟩ := leaf_trod n h hx
        refine ⟨c, y, fuel', ?_, h2⟩
        rw [List.getElem?_take] at h1
        split at h1
        · rw [List.getElem?_drop] at h1
          rw [show fs[i].offset + (j - fs[i].offset) = j by omega] at h1
          exact h1
        · cases h1
      · cases h
    · rename_i k ht
      split at h
      · rename_i hj
        cases h; subst hj
        obtain ⟨m, rfl, _⟩ := DataW.trod_int ht hd
        exact ⟨_, x, fuel, rfl, hd⟩
      · cases h
    · rename_i ht
      split at h
      · rename_i hj
        cases h; subst hj
        obtain ⟨m, rfl, _⟩ := DataW.trod_string ht hd
        exact ⟨_, x, fuel, rfl, hd⟩
      · cases h
    · rename_i ht
      split at h
      · rename_i hj
        cases h; subst hj
        obtain ⟨m, rfl, _⟩ := DataW.trod_bool ht hd
        exact ⟨_, x, fuel, rfl, hd⟩
      · cases h
    · rename_i e ht
      split at h
      · rename_i hj
        cases h; subst hj
        rcases open_slice ht hd with ⟨rfl, _⟩ | ⟨a, len, cap, m, n', D, Pl, rfl, _⟩
        · exact ⟨_, x, fuel, rfl, hd⟩
        · exact ⟨_, x, fuel, rfl, hd⟩
      · cases h
    · cases h
end

/-- What a cell holds: a number, a string, a truth value. -/
inductive Kd | i (k : IntKind) | s | b
def Kd.is : Kd → Value → Prop
  | .i k, v => ∃ n : Int, v = .int k n ∧ (Lit.int k n).wf = true
  | .s, v => ∃ s : ByteArray, v = .string s ∧ s.size ≤ maxLen
  | .b, v => ∃ b, v = .bool b
def Kd.chk (P : Program) (k : Kd) (u : TypeId) : Bool := match P.underlying u, k with
  | some (.int q), .i k => decide (q = k)
  | some .string, .s => true
  | some .bool, .b => true
  | _, _ => false
def allChk {K : Type} (P : Program) (chk : K → TypeId → Bool) (e : TypeId) (ks : List K) : Bool := decide (P.cellsOf e = ks.length ∧ 0 < ks.length) && (List.range ks.length).all fun j => match leafT P 5 e j, ks[j]? with
  | some u, some k => chk k u
  | _, _ => false
def flatChk (P : Program) (e : TypeId) (ks : List Kd) : Bool := allChk P (fun (k : Kd) u => k.chk P u) e ks
/-- A slice whose elements are these cells. -/
def Cels (w : World) {K : Type} (is : K → Value → Prop) (ks : List K) (v : Value) : Prop :=
  ∃ ao len cap, v = .slice ao len cap ∧ len ≤ cap ∧ cap ≤ maxLen ∧ (len = 0 ∨ ∃ g o, ao = some ⟨g, o, none⟩ ∧ g < w.heap.size ∧ ∀ i, i < len → ∀ j k, ks[j]? = some k → ∃ c, w.cell? ⟨g, o + (i * ks.length + j), none⟩ = some c ∧ is k c)
def Flat (w : World) (ks : List Kd) (v : Value) : Prop := Cels w Kd.is ks v
inductive K2 | o (k : Kd) | f (ks : List Kd)
def K2.is (w : World) : K2 → Value → Prop
  | .o k, v => k.is v
  | .f ks, v => Flat w ks v
def K2.chk (P : Program) : K2 → TypeId → Bool
  | .o k, u => k.chk P u
  | .f ks, u => match P.underlying u with
    | some (.slice e) => flatChk P e ks
    | _ => false
def nestChk (P : Program) (e : TypeId) (ks : List K2) : Bool := allChk P (fun (k : K2) u => K2.chk P k u) e ks
def Nest (w : World) (ks : List K2) (v : Value) : Prop := Cels w (K2.is w) ks v
inductive K3 | o (k : Kd) | f (ks : List Kd) | n (ks : List K2)
def K3.is (w : World) : K3 → Value → Prop
  | .o k, v => k.is v
  | .f ks, v => Flat w ks v
  | .n ks, v => Nest w ks v
def K3.chk (P : Program) : K3 → TypeId → Bool
  | .o k, u => k.chk P u
  | .f ks, u => match P.underlying u with
    | some (.slice e) => flatChk P e ks
    | _ => false
  | .n ks, u => match P.underlying u with
    | some (.slice e) => nestChk P e ks
    | _ => false

section
variable {H : Type} {enc : TypeId × Value → H} {P : Program} {w : World} {spare : Nat → Bool} {held : Bool}
theorem Kd.of {k : Kd} {u : TypeId} {fuel : Nat} {c : Value} {x : DataW H × List MemPlace} (hk : k.chk P u = true) (h : DataW.trod enc P w 0 spare held fuel u [c] = some x) : k.is c := by
  unfold Kd.chk at hk
  split at hk
  · rename_i q k' hu
    obtain ⟨m, e, _, wf⟩ := DataW.trod_int hu h
    rw [of_decide_eq_true hk] at e wf
    exact ⟨m, (List.cons.inj e).1, wf⟩
  · rename_i hu
    obtain ⟨s, e, _, l⟩ := DataW.trod_string hu h
    exact ⟨s, (List.cons.inj e).1, l⟩
  · rename_i hu
    obtain ⟨b, e, _⟩ := DataW.trod_bool hu h
    exact ⟨b, (List.cons.inj e).1⟩
  · cases hk
/-- A slice whose elements are opened cell by cell. -/
theorem cels_of {K : Type} {is : K → Value → Prop} {chk : K → TypeId → Bool} (hof : ∀ {k : K} {u : TypeId} {fuel : Nat} {c : Value} {x : DataW H × List MemPlace}, chk k u = true → DataW.trod enc P w 0 spare held fuel u [c] = some x → is k c)
    {t e : TypeId} {ks : List K} (ht : P.underlying t = some (.slice e)) (hlen : P.cellsOf e = ks.length) (hpos : 0 < ks.length) (hchk : ∀ j k, ks[j]? = some k → ∃ u, leafT P 5 e j = some u ∧ chk k u = true) {fuel : Nat} {v : Value} {x : DataW H × List MemPlace} (h : DataW.trod enc P w 0 spare held fuel t [v] = some x) : Cels w is ks v := by
  rcases open_slice ht h with ⟨hcs, _⟩ | ⟨a, len, cap, m, n, D, Pl, hcs, _, hl, hm, hmm, _, hi⟩
  · cases hcs
    exact ⟨none, 0, 0, rfl, Nat.le_refl _, by simp, .inl rfl⟩
  · cases hcs
    refine ⟨some a, len, cap, rfl, hl, hm, ?_⟩
    rcases Nat.eq_zero_or_pos len with e0 | e0
    · exact .inl e0
    · right
      have hlm : len ≤ m := by rw [hmm]; split <;> omega
      have cells : ∀ i, i < len → ∀ j k, ks[j]? = some k → ∃ c, w.cell? (a.add (i * ks.length + j)) = some c ∧ is k c := by
        intro i hil j k hk
        obtain ⟨cs', hc, ht'⟩ := hi i (by omega)
        rw [hlen] at hc
        obtain ⟨_, hcl, hat⟩ := World.cells?_some hc
        have hj : j < ks.length := by
          rcases Nat.lt_or_ge j ks.length with h1 | h1
          · exact h1
          · rw [List.getElem?_eq_none h1] at hk; cases hk
        obtain ⟨u, hu, hck⟩ := hchk j k hk
        obtain ⟨c, y, fuel', h1, h2⟩ := leaf_trod 5 hu ht'
        refine ⟨c, ?_, hof hck h2⟩
        have := hat j hj
        rw [Go.Deep.add_add] at this
        rw [this, h1]
      obtain ⟨g, o, spot⟩ := a
      have hk0 : ks[0]? = some ks[0] := List.getElem?_eq_getElem hpos
      obtain ⟨c0, hc0, _⟩ := cells 0 e0 0 _ hk0
      have hspot : spot = none := by simpa [Addr.add] using World.cell?_spot hc0
      subst hspot
      refine ⟨g, o, rfl, by simpa [Addr.add] using World.block_lt_of_cell? _ _ hc0, fun i hil j k hk => ?_⟩
      have := cells i hil j k hk
      rw [show (Addr.mk g o none).add (i * ks.length + j) = ⟨g, o + (i * ks.length + j), none⟩ from Go.WideShapes.add_plain ..] at this
      exact this
theorem all_chk {K : Type} {chk : K → TypeId → Bool} {e : TypeId} {ks : List K} (h : allChk P chk e ks = true) : (P.cellsOf e = ks.length ∧ 0 < ks.length) ∧ ∀ j k, ks[j]? = some k → ∃ u, leafT P 5 e j = some u ∧ chk k u = true := by
  unfold allChk at h
  rw [Bool.and_eq_true, decide_eq_true_eq, List.all_eq_true] at h
  refine ⟨h.1, fun j k hk => ?_⟩
  have hj : j < ks.length := by
    rcases Nat.lt_or_ge j ks.length with h1 | h1
    · exact h1
    · rw [List.getElem?_eq_none h1] at hk; cases hk
  have := h.2 j (List.mem_range.2 hj)
  rw [hk] at this
  cases hu : leafT P 5 e j with
  | none => rw [hu] at this; cases this
  | some u => rw [hu] at this; exact ⟨u, rfl, this⟩
theorem flat_of {t e : TypeId} {ks : List Kd} (ht : P.underlying t = some (.slice e)) (hk : flatChk P e ks = true) {fuel : Nat} {v : Value} {x : DataW H × List MemPlace} (h : DataW.trod enc P w 0 spare held fuel t [v] = some x) : Flat w ks v := by
  obtain ⟨h1, h2⟩ := all_chk (K := Kd) (chk := fun (k : Kd) u => k.chk P u) hk
  exact cels_of (chk := fun k u => k.chk P u) (fun hk h => Kd.of hk h) ht h1.1 h1.2 h2 h
theorem K2.of {k : K2} {u : TypeId} {fuel : Nat} {c : Value} {x : DataW H × List MemPlace} (hk : k.chk P u = true) (h : DataW.trod enc P w 0 spare held fuel u [c] = some x) : k.is w c := by
  cases k with
  | o k => exact Kd.of hk h
  | f ks =>
    simp only [K2.chk] at hk
    split at hk
    · rename_i e hu
      exact flat_of hu hk h
    · cases hk
theorem nest_of {t e : TypeId} {ks : List K2} (ht : P.underlying t = some (.slice e)) (hk : nestChk P e ks = true) {fuel : Nat} {v : Value} {x : DataW H × List MemPlace} (h : DataW.trod enc P w 0 spare held fuel t [v] = some x) : Nest w ks v := by
  obtain ⟨h1, h2⟩ := all_chk (K := K2) (chk := fun (k : K2) u => K2.chk P k u) hk
  exact cels_of (chk := fun k u => K2.chk P k u) (fun hk h => K2.of hk h) ht h1.1 h1.2 h2 h
theorem K3.of {k : K3} {u : TypeId} {fuel : Nat} {c : Value} {x : DataW H × List MemPlace} (hk : k.chk P u = true) (h : DataW.trod enc P w 0 spare held fuel u [c] = some x) : k.is w c := by
  cases k with
  | o k => exact Kd.of hk h
  | f ks =>
    simp only [K3.chk] at hk
    split at hk
    · rename_i e hu
      exact flat_of hu hk h
    · cases hk
  | n ks =>
    simp only [K3.chk] at hk
    split at hk
    · rename_i e hu
      exact nest_of hu hk h
    · cases hk
end

/-! ### what was there stays -/
theorem Cels.no {w w' : World} {K : Type} {is is' : K → Value → Prop} {ks : List K} {v : Value} (h : Cels w is ks v) (k : Kp No w w') (hi : ∀ x c, is x c → is' x c) : Cels w' is' ks v := by
  obtain ⟨ao, len, cap, hv, h1, h2, h3⟩ := h
  refine ⟨ao, len, cap, hv, h1, h2, ?_⟩
  rcases h3 with h3 | ⟨g, o, rfl, hg, h3⟩
  · exact .inl h3
  · refine .inr ⟨g, o, rfl, Nat.lt_of_lt_of_le hg k.size, fun i hil j x hx => ?_⟩
    obtain ⟨c, hc, hs⟩ := h3 i hil j x hx
    exact ⟨c, by rw [k.cell hg (fun z => z)]; exact hc, hi x c hs⟩
theorem Flat.no {w w' : World} {ks : List Kd} {v : Value} (h : Flat w ks v) (k : Kp No w w') : Flat w' ks v := Cels.no h k (fun _ _ x => x)
theorem K2.no {w w' : World} {x : K2} {v : Value} (h : x.is w v) (k : Kp No w w') : x.is w' v := by
  cases x with
  | o _ => exact h
  | f _ => exact Flat.no h k
theorem Nest.no {w w' : World} {ks : List K2} {v : Value} (h : Nest w ks v) (k : Kp No w w') : Nest w' ks v := Cels.no h k (fun _ _ h => K2.no h k)
/-- The element at place i. -/
theorem Cels.at {w : World} {K : Type} {is : K → Value → Prop} {ks : List K} {ao : Option Addr} {len cap i : Nat} (h : Cels w is ks (.slice ao len cap)) (hi : i < len) : ∃ g o, ao = some ⟨g, o, none⟩ ∧ g < w.heap.size ∧ ∀ j k, ks[j]? = some k → ∃ c, w.cell? ⟨g, o + (i * ks.length + j), none⟩ = some c ∧ is k c := by
  obtain ⟨ao', len', cap', hv, _, _, h3⟩ := h
  cases hv
  rcases h3 with h3 | ⟨g, o, rfl, hg, h3⟩
  · omega
  · exact ⟨g, o, rfl, hg, h3 i hi⟩
theorem Cels.form {w : World} {K : Type} {is : K → Value → Prop} {ks : List K} {v : Value} (h : Cels w is ks v) : ∃ ao len cap, v = .slice ao len cap ∧ len ≤ cap ∧ cap ≤ 9223372036854775807 := by
  obtain ⟨ao, len, cap, hv, h1, h2, _⟩ := h
  exact ⟨ao, len, cap, hv, h1, by unfold maxLen at h2; omega⟩
theorem Kd.u32 {v : Value} (h : (Kd.i .u32).is v) : ∃ n : Nat, v = .int .u32 (n : Int) ∧ n < 4294967296 := by
  obtain ⟨a, rfl, wf⟩ := h
  have := bounds_u32 wf
  exact ⟨a.toNat, by rw [show ((a.toNat : Nat) : Int) = a by omega], by omega⟩
theorem Kd.i64 {v : Value} (h : (Kd.i .i64).is v) : ∃ n : Int, v = .int .i64 n ∧ -9223372036854775808 ≤ n ∧ n ≤ 9223372036854775807 := by
  obtain ⟨a, rfl, wf⟩ := h
  exact ⟨a, rfl, bounds_i64 wf⟩

/-! ### the elements of a router (printed by a program) -/
def ifK : List Kd := [.s, .i .u32, .i .i64, .i .i64, .b, .b, .i .i64, .i .i64, .b, .s, .s, .i .i64]
def prK : List Kd := [.b, .i .u32, .i .i64, .i .i64, .i .i64]
def clK : List Kd := [.b, .s, .i .i64, .i .i64, .i .i64, .i .i64, .i .i64]
def ruK : List Kd := [.b, .i .i64, .i .u32, .i .u32, .i .u32, .i .u32, .i .i64, .i .i64, .i .i64, .i .i64]
def trK : List Kd := [.i .i64, .i .u32, .i .u32, .i .i64, .i .i64, .i .i64, .s, .i .u32, .i .u32]
def stK : List Kd := [.i .u32, .i .i64, .i .u32, .s, .b, .i .i64, .i .i64]
def arK : List Kd := [.i .i64, .i .u32, .i .i64]
def rdK : List Kd := [.i .i64, .i .i64, .i .i64, .s, .i .i64]
def nbK : List Kd := [.i .u32, .i .i64, .s, .s]
def pfK : List Kd := [.i .u32, .i .i64]
def agK : List Kd := [.i .u32, .i .i64, .b]
def cnK : List Kd := [.i .u32, .i .i64, .i .u32, .i .i64, .b]
def plK : List K2 := [.o .s, .f prK]
def rmK : List K2 := [.o .s, .f clK]
def acK : List K2 := [.o .s, .f ruK]
theorem if_at {w : World} {ao : Option Addr} {len cap i : Nat} (h : Flat w ifK (.slice ao len cap)) (hi : i < len) : ∃ (g o : Nat) (a0 : ByteArray) (a1 : Nat) (a2 : Int) (a3 : Int) (a4 : Bool) (a5 : Bool) (a6 : Int) (a7 : Int) (a8 : Bool) (a9 : ByteArray) (a10 : ByteArray) (a11 : Int), ao = some ⟨g, o, none⟩ ∧ g < w.heap.size ∧ (w.cell? ⟨g, o + i * 12, none⟩ = some (.string a0) ∧ w.cell? ⟨g, o + i * 12 + 1, none⟩ = some (.int .u32 (a1 : Int)) ∧ w.cell? ⟨g, o + i * 12 + 2, none⟩ = some (.int .i64 a2) ∧ w.cell? ⟨g, o + i * 12 + 3, none⟩ = some (.int .i64 a3) ∧ w.cell? ⟨g, o + i * 12 + 4, none⟩ = some (.bool a4) ∧ w.cell? ⟨g, o + i * 12 + 5, none⟩ = some (.bool a5) ∧ w.cell? ⟨g, o + i * 12 + 6, none⟩ = some (.int .i64 a6) ∧ w.cell? ⟨g, o + i * 12 + 7, none⟩ = some (.int .i64 a7) ∧ w.cell? ⟨g, o + i * 12 + 8, none⟩ = some (.bool a8) ∧ w.cell? ⟨g, o + i * 12 + 9, none⟩ = some (.string a9) ∧ w.cell? ⟨g, o + i * 12 + 10, none⟩ = some (.string a10) ∧ w.cell? ⟨g, o + i * 12 + 11, none⟩ = some (.int .i64 a11)) ∧ a0.size ≤ 9223372036854775807 ∧ a1 < 4294967296 ∧ (-9223372036854775808 ≤ a2 ∧ a2 ≤ 9223372036854775807) ∧ (-9223372036854775808 ≤ a3 ∧ a3 ≤ 9223372036854775807) ∧ (-9223372036854775808 ≤ a6 ∧ a6 ≤ 9223372036854775807) ∧ (-9223372036854775808 ≤ a7 ∧ a7 ≤ 9223372036854775807) ∧ a9.size ≤ 9223372036854775807 ∧ a10.size ≤ 9223372036854775807 ∧ (-9223372036854775808 ≤ a11 ∧ a11 ≤ 9223372036854775807) := by
  obtain ⟨g, o, e, hg, hc⟩ := Cels.at h hi
  rw [show ifK.length = 12 from rfl] at hc
  obtain ⟨v0, c0, k0⟩ := hc 0 _ rfl
  obtain ⟨a0, rfl, b0⟩ := k0
  obtain ⟨v1, c1, k1⟩ := hc 1 _ rfl
  obtain ⟨a1, rfl, b1⟩ := Kd.u32 k1
  obtain ⟨v2, c2, k2⟩ := hc 2 _ rfl
  obtain ⟨a2, rfl, b2⟩ := Kd.i64 k2
  obtain ⟨v3, c3, k3⟩ := hc 3 _ rfl
  obtain ⟨a3, rfl, b3⟩ := Kd.i64 k3
  obtain ⟨v4, c4, k4⟩ := hc 4 _ rfl
  obtain ⟨a4, rfl⟩ := k4
  obtain ⟨v5, c5, k5⟩ := hc 5 _ rfl
  obtain ⟨a5, rfl⟩ := k5
  obtain ⟨v6, c6, k6⟩ := hc 6 _ rfl
  obtain ⟨a6, rfl, b6⟩ := Kd.i64 k6
  obtain ⟨v7, c7, k7⟩ := hc 7 _ rfl
  obtain ⟨a7, rfl, b7⟩ := Kd.i64 k7
  obtain ⟨v8, c8, k8⟩ := hc 8 _ rfl
  obtain ⟨a8, rfl⟩ := k8
  obtain ⟨v9, c9, k9⟩ := hc 9 _ rfl
  obtain ⟨a9, rfl, b9⟩ := k9
  obtain ⟨v10, c10, k10⟩ := hc 10 _ rfl
  obtain ⟨a10, rfl, b10⟩ := k10
  obtain ⟨v11, c11, k11⟩ := hc 11 _ rfl
  obtain ⟨a11, rfl, b11⟩ := Kd.i64 k11
  unfold maxLen at b0
  unfold maxLen at b9
  unfold maxLen at b10
  exact ⟨g, o, a0, a1, a2, a3, a4, a5, a6, a7, a8, a9, a10, a11, e, hg, ⟨by simpa [Nat.add_assoc] using c0, by simpa [Nat.add_assoc] using c1, by simpa [Nat.add_assoc] using c2, by simpa [Nat.add_assoc] using c3, by simpa [Nat.add_assoc] using c4, by simpa [Nat.add_assoc] using c5, by simpa [Nat.add_assoc] using c6, by simpa [Nat.add_assoc] using c7, by simpa [Nat.add_assoc] using c8, by simpa [Nat.add_assoc] using c9, by simpa [Nat.add_assoc] using c10, by simpa [Nat.add_assoc] using c11⟩, by omega, b1, b2, b3, b6, b7, by omega, by omega, b11⟩
theorem pr_at {w : World} {ao : Option Addr} {len cap i : Nat} (h : Flat w prK (.slice ao len cap)) (hi : i < len) : ∃ (g o : Nat) (a0 : Bool) (a1 : Nat) (a2 : Int) (a3 : Int) (a4 : Int), ao = some ⟨g, o, none⟩ ∧ g < w.heap.size ∧ (w.cell? ⟨g, o + i * 5, none⟩ = some (.bool a0) ∧ w.cell? ⟨g, o + i * 5 + 1, none⟩ = some (.int .u32 (a1 : Int)) ∧ w.cell? ⟨g, o + i * 5 + 2, none⟩ = some (.int .i64 a2) ∧ w.cell? ⟨g, o + i * 5 + 3, none⟩ = some (.int .i64 a3) ∧ w.cell? ⟨g, o + i * 5 + 4, none⟩ = some (.int .i64 a4)) ∧ a1 < 4294967296 ∧ (-9223372036854775808 ≤ a2 ∧ a2 ≤ 9223372036854775807) ∧ (-9223372036854775808 ≤ a3 ∧ a3 ≤ 9223372036854775807) ∧ (-9223372036854775808 ≤ a4 ∧ a4 ≤ 9223372036854775807) := by
  obtain ⟨g, o, e, hg, hc⟩ := Cels.at h hi
  rw [show prK.length = 5 from rfl] at hc
  obtain ⟨v0, c0, k0⟩ := hc 0 _ rfl
  obtain ⟨a0, rfl⟩ := k0
  obtain ⟨v1, c1, k1⟩ := hc 1 _ rfl
  obtain ⟨a1, rfl, b1⟩ := Kd.u32 k1
  obtain ⟨v2, c2, k2⟩ := hc 2 _ rfl
  obtain ⟨a2, rfl, b2⟩ := Kd.i64 k2
  obtain ⟨v3, c3, k3⟩ := hc 3 _ rfl
  obtain ⟨a3, rfl, b3⟩ := Kd.i64 k3
  obtain ⟨v4, c4, k4⟩ := hc 4 _ rfl
  obtain ⟨a4, rfl, b4⟩ := Kd.i64 k4
  exact ⟨g, o, a0, a1, a2, a3, a4, e, hg, ⟨by simpa [Nat.add_assoc] using c0, by simpa [Nat.add_assoc] using c1, by simpa [Nat.add_assoc] using c2, by simpa [Nat.add_assoc] using c3, by simpa [Nat.add_assoc] using c4⟩, b1, b2, b3, b4⟩
theorem cl_at {w : World} {ao : Option Addr} {len cap i : Nat} (h : Flat w clK (.slice ao len cap)) (hi : i < len) : ∃ (g o : Nat) (a0 : Bool) (a1 : ByteArray) (a2 : Int) (a3 : Int) (a4 : Int) (a5 : Int) (a6 : Int), ao = some ⟨g, o, none⟩ ∧ g < w.heap.size ∧ (w.cell? ⟨g, o + i * 7, none⟩ = some (.bool a0) ∧ w.cell? ⟨g, o + i * 7 + 1, none⟩ = some (.string a1) ∧ w.cell? ⟨g, o + i * 7 + 2, none⟩ = some (.int .i64 a2) ∧ w.cell? ⟨g, o + i * 7 + 3, none⟩ = some (.int .i64 a3) ∧ w.cell? ⟨g, o + i * 7 + 4, none⟩ = some (.int .i64 a4) ∧ w.cell? ⟨g, o + i * 7 + 5, none⟩ = some (.int .i64 a5) ∧ w.cell? ⟨g, o + i * 7 + 6, none⟩ = some (.int .i64 a6)) ∧ a1.size ≤ 9223372036854775807 ∧ (-9223372036854775808 ≤ a2 ∧ a2 ≤ 9223372036854775807) ∧ (-9223372036854775808 ≤ a3 ∧ a3 ≤ 9223372036854775807) ∧ (-9223372036854775808 ≤ a4 ∧ a4 ≤ 9223372036854775807) ∧ (-9223372036854775808 ≤ a5 ∧ a5 ≤ 9223372036854775807) ∧ (-9223372036854775808 ≤ a6 ∧ a6 ≤ 9223372036854775807) := by
  obtain ⟨g, o, e, hg, hc⟩ := Cels.at h hi
  rw [show clK.length = 7 from rfl] at hc
  obtain ⟨v0, c0, k0⟩ := hc 0 _ rfl
  obtain ⟨a0, rfl⟩ := k0
  obtain ⟨v1, c1, k1⟩ := hc 1 _ rfl
  obtain ⟨a1, rfl, b1⟩ := k1
  obtain ⟨v2, c2, k2⟩ := hc 2 _ rfl
  obtain ⟨a2, rfl, b2⟩ := Kd.i64 k2
  obtain ⟨v3, c3, k3⟩ := hc 3 _ rfl
  obtain ⟨a3, rfl, b3⟩ := Kd.i64 k3
  obtain ⟨v4, c4, k4⟩ := hc 4 _ rfl
  obtain ⟨a4, rfl, b4⟩ := Kd.i64 k4
  obtain ⟨v5, c5, k5⟩ := hc 5 _ rfl
  obtain ⟨a5, rfl, b5⟩ := Kd.i64 k5
  obtain ⟨v6, c6, k6⟩ := hc 6 _ rfl
  obtain ⟨a6, rfl, b6⟩ := Kd.i64 k6
  unfold maxLen at b1
  exact ⟨g, o, a0, a1, a2, a3, a4, a5, a6, e, hg, ⟨by simpa [Nat.add_assoc] using c0, by simpa [Nat.add_assoc] using c1, by simpa [Nat.add_assoc] using c2, by simpa [Nat.add_assoc] using c3, by simpa [Nat.add_assoc] using c4, by simpa [Nat.add_assoc] using c5, by simpa [Nat.add_assoc] using c6⟩, by omega, b2, b3, b4, b5, b6⟩
theorem ru_at {w : World} {ao : Option Addr} {len cap i : Nat} (h : Flat w ruK (.slice ao len cap)) (hi : i < len) : ∃ (g o : Nat) (a0 : Bool) (a1 : Int) (a2 : Nat) (a3 : Nat) (a4 : Nat) (a5 : Nat) (a6 : Int) (a7 : Int) (a8 : Int) (a9 : Int), ao = some ⟨g, o, none⟩ ∧ g < w.heap.size ∧ (w.cell? ⟨g, o + i * 10, none⟩ = some (.bool a0) ∧ w.cell? ⟨g, o + i * 10 + 1, none⟩ = some (.int .i64 a1) ∧ w.cell? ⟨g, o + i * 10 + 2, none⟩ = some (.int .u32 (a2 : Int)) ∧ w.cell? ⟨g, o + i * 10 + 3, none⟩ = some (.int .u32 (a3 : Int)) ∧ w.cell? ⟨g, o + i * 10 + 4, none⟩ = some (.int .u32 (a4 : Int)) ∧ w.cell? ⟨g, o + i * 10 + 5, none⟩ = some (.int .u32 (a5 : Int)) ∧ w.cell? ⟨g, o + i * 10 + 6, none⟩ = some (.int .i64 a6) ∧ w.cell? ⟨g, o + i * 10 + 7, none⟩ = some (.int .i64 a7) ∧ w.cell? ⟨g, o + i * 10 + 8, none⟩ = some (.int .i64 a8) ∧ w.cell? ⟨g, o + i * 10 + 9, none⟩ = some (.int .i64 a9)) ∧ (-9223372036854775808 ≤ a1 ∧ a1 ≤ 9223372036854775807) ∧ a2 < 4294967296 ∧ a3 < 4294967296 ∧ a4 < 4294967296 ∧ a5 < 4294967296 ∧ (-9223372036854775808 ≤ a6 ∧ a6 ≤ 9223372036854775807) ∧ (-9223372036854775808 ≤ a7 ∧ a7 ≤ 9223372036854775807) ∧ (-9223372036854775808 ≤ a8 ∧ a8 ≤ 9223372036854775807) ∧ (-9223372036854775808 ≤ a9 ∧ a9 ≤ 9223372036854775807) := by
  obtain ⟨g, o, e, hg, hc⟩ := Cels.at h hi
  rw [show ruK.length = 10 from rfl] at hc
  obtain ⟨v0, c0, k0⟩ := hc 0 _ rfl
  obtain ⟨a0, rfl⟩ := k0
  obtain ⟨v1, c1, k1⟩ := hc 1 _ rfl
  obtain ⟨a1, rfl, b1⟩ := Kd.i64 k1
  obtain ⟨v2, c2, k2⟩ := hc 2 _ rfl
  obtain ⟨a2, rfl, b2⟩ := Kd.u32 k2
  obtain ⟨v3, c3, k3⟩ := hc 3 _ rfl
  obtain ⟨a3, rfl, b3⟩ := Kd.u32 k3
  obtain ⟨v4, c4, k4⟩ := hc 4 _ rfl
  obtain ⟨a4, rfl, b4⟩ := Kd.u32 k4
  obtain ⟨v5, c5, k5⟩ := hc 5 _ rfl
  obtain ⟨a5, rfl, b5⟩ := Kd.u32 k5
  obtain ⟨v6, c6, k6⟩ := hc 6 _ rfl
  obtain ⟨a6, rfl, b6⟩ := Kd.i64 k6
  obtain ⟨v7, c7, k7⟩ := hc 7 _ rfl
  obtain ⟨a7, rfl, b7⟩ := Kd.i64 k7
  obtain ⟨v8, c8, k8⟩ := hc 8 _ rfl
  obtain ⟨a8, rfl, b8⟩ := Kd.i64 k8
  obtain ⟨v9, c9, k9⟩ := hc 9 _ rfl
  obtain ⟨a9, rfl, b9⟩ := Kd.i64 k9
  exact ⟨g, o, a0, a1, a2, a3, a4, a5, a6, a7, a8, a9, e, hg, ⟨by simpa [Nat.add_assoc] using c0, by simpa [Nat.add_assoc] using c1, by simpa [Nat.add_assoc] using c2, by simpa [Nat.add_assoc] using c3, by simpa [Nat.add_assoc] using c4, by simpa [Nat.add_assoc] using c5, by simpa [Nat.add_assoc] using c6, by simpa [Nat.add_assoc] using c7, by simpa [Nat.add_assoc] using c8, by simpa [Nat.add_assoc] using c9⟩, b1, b2, b3, b4, b5, b6, b7, b8, b9⟩
theorem tr_at {w : World} {ao : Option Addr} {len cap i : Nat} (h : Flat w trK (.slice ao len cap)) (hi : i < len) : ∃ (g o : Nat) (a0 : Int) (a1 : Nat) (a2 : Nat) (a3 : Int) (a4 : Int) (a5 : Int) (a6 : ByteArray) (a7 : Nat) (a8 : Nat), ao = some ⟨g, o, none⟩ ∧ g < w.heap.size ∧ (w.cell? ⟨g, o + i * 9, none⟩ = some (.int .i64 a0) ∧ w.cell? ⟨g, o + i * 9 + 1, none⟩ = some (.int .u32 (a1 : Int)) ∧ w.cell? ⟨g, o + i * 9 + 2, none⟩ = some (.int .u32 (a2 : Int)) ∧ w.cell? ⟨g, o + i * 9 + 3, none⟩ = some (.int .i64 a3) ∧ w.cell? ⟨g, o + i * 9 + 4, none⟩ = some (.int .i64 a4) ∧ w.cell? ⟨g, o + i * 9 + 5, none⟩ = some (.int .i64 a5) ∧ w.cell? ⟨g, o + i * 9 + 6, none⟩ = some (.string a6) ∧ w.cell? ⟨g, o + i * 9 + 7, none⟩ = some (.int .u32 (a7 : Int)) ∧ w.cell? ⟨g, o + i * 9 + 8, none⟩ = some (.int .u32 (a8 : Int))) ∧ (-9223372036854775808 ≤ a0 ∧ a0 ≤ 9223372036854775807) ∧ a1 < 4294967296 ∧ a2 < 4294967296 ∧ (-9223372036854775808 ≤ a3 ∧ a3 ≤ 9223372036854775807) ∧ (-9223372036854775808 ≤ a4 ∧ a4 ≤ 9223372036854775807) ∧ (-9223372036854775808 ≤ a5 ∧ a5 ≤ 9223372036854775807) ∧ a6.size ≤ 9223372036854775807 ∧ a7 < 4294967296 ∧ a8 < 4294967296 := by
  obtain ⟨g, o, e, hg, hc⟩ := Cels.at h hi
  rw [show trK.length = 9 from rfl] at hc
  obtain ⟨v0, c0, k0⟩ := hc 0 _ rfl
  obtain ⟨a0, rfl, b0⟩ := Kd.i64 k0
  obtain ⟨v1, c1, k1⟩ := hc 1 _ rfl
  obtain ⟨a1, rfl, b1⟩ := Kd.u32 k1
  obtain ⟨v2, c2, k2⟩ := hc 2 _ rfl
  obtain ⟨a2, rfl, b2⟩ := Kd.u32 k2
  obtain ⟨v3, c3, k3⟩ := hc 3 _ rfl
  obtain ⟨a3, rfl, b3⟩ := Kd.i64 k3
  obtain ⟨v4, c4, k4⟩ := hc 4 _ rfl
  obtain ⟨a4, rfl, b4⟩ := Kd.i64 k4
  obtain ⟨v5, c5, k5⟩ := hc 5 _ rfl
  obtain ⟨a5, rfl, b5⟩ := Kd.i64 k5
  obtain ⟨v6, c6, k6⟩ := hc 6 _ rfl
  obtain ⟨a6, rfl, b6⟩ := k6
  obtain ⟨v7, c7, k7⟩ := hc 7 _ rfl
  obtain ⟨a7, rfl, b7⟩ := Kd.u32 k7
  obtain ⟨v8, c8, k8⟩ := hc 8 _ rfl
  obtain ⟨a8, rfl, b8⟩ := Kd.u32 k8
  unfold maxLen at b6
  exact ⟨g, o, a0, a1, a2, a3, a4, a5, a6, a7, a8, e, hg, ⟨by simpa [Nat.add_assoc] using c0, by simpa [Nat.add_assoc] using c1, by simpa [Nat.add_assoc] using c2, by simpa [Nat.add_assoc] using c3, by simpa [Nat.add_assoc] using c4, by simpa [Nat.add_assoc] using c5, by simpa [Nat.add_assoc] using c6, by simpa [Nat.add_assoc] using c7, by simpa [Nat.add_assoc] using c8⟩, b0, b1, b2, b3, b4, b5, by omega, b7, b8⟩
theorem st_at {w : World} {ao : Option Addr} {len cap i : Nat} (h : Flat w stK (.slice ao len cap)) (hi : i < len) : ∃ (g o : Nat) (a0 : Nat) (a1 : Int) (a2 : Nat) (a3 : ByteArray) (a4 : Bool) (a5 : Int) (a6 : Int), ao = some ⟨g, o, none⟩ ∧ g < w.heap.size ∧ (w.cell? ⟨g, o + i * 7, none⟩ = some (.int .u32 (a0 : Int)) ∧ w.cell? ⟨g, o + i * 7 + 1, none⟩ = some (.int .i64 a1) ∧ w.cell? ⟨g, o + i * 7 + 2, none⟩ = some (.int .u32 (a2 : Int)) ∧ w.cell? ⟨g, o + i * 7 + 3, none⟩ = some (.string a3) ∧ w.cell? ⟨g, o + i * 7 + 4, none⟩ = some (.bool a4) ∧ w.cell? ⟨g, o + i * 7 + 5, none⟩ = some (.int .i64 a5) ∧ w.cell? ⟨g, o + i * 7 + 6, none⟩ = some (.int .i64 a6)) ∧ a0 < 4294967296 ∧ (-9223372036854775808 ≤ a1 ∧ a1 ≤ 9223372036854775807) ∧ a2 < 4294967296 ∧ a3.size ≤ 9223372036854775807 ∧ (-9223372036854775808 ≤ a5 ∧ a5 ≤ 9223372036854775807) ∧ (-9223372036854775808 ≤ a6 ∧ a6 ≤ 9223372036854775807) := by
  obtain ⟨g, o, e, hg, hc⟩ := Cels.at h hi
  rw [show stK.length = 7 from rfl] at hc
  obtain ⟨v0, c0, k0⟩ := hc 0 _ rfl
  obtain ⟨a0, rfl, b0⟩ := Kd.u32 k0
  obtain ⟨v1, c1, k1⟩ := hc 1 _ rfl
  obtain ⟨a1, rfl, b1⟩ := Kd.i64 k1
  obtain ⟨v2, c2, k2⟩ := hc 2 _ rfl
  obtain ⟨a2, rfl, b2⟩ := Kd.u32 k2
  obtain ⟨v3, c3, k3⟩ := hc 3 _ rfl
  obtain ⟨a3, rfl, b3⟩ := k3
  obtain ⟨v4, c4, k4⟩ := hc 4 _ rfl
  obtain ⟨a4, rfl⟩ := k4
  obtain ⟨v5, c5, k5⟩ := hc 5 _ rfl
  obtain ⟨a5, rfl, b5⟩ := Kd.i64 k5
  obtain ⟨v6, c6, k6⟩ := hc 6 _ rfl
  obtain ⟨a6, rfl, b6⟩ := Kd.i64 k6
  unfold maxLen at b3
  exact ⟨g, o, a0, a1, a2, a3, a4, a5, a6, e, hg, ⟨by simpa [Nat.add_assoc] using c0, by simpa [Nat.add_assoc] using c1, by simpa [Nat.add_assoc] using c2, by simpa [Nat.add_assoc] using c3, by simpa [Nat.add_assoc] using c4, by simpa [Nat.add_assoc] using c5, by simpa [Nat.add_assoc] using c6⟩, b0, b1, b2, by omega, b5, b6⟩
theorem ar_at {w : World} {ao : Option Addr} {len cap i : Nat} (h : Flat w arK (.slice ao len cap)) (hi : i < len) : ∃ (g o : Nat) (a0 : Int) (a1 : Nat) (a2 : Int), ao = some ⟨g, o, none⟩ ∧ g < w.heap.size ∧ (w.cell? ⟨g, o + i * 3, none⟩ = some (.int .i64 a0) ∧ w.cell? ⟨g, o + i * 3 + 1, none⟩ = some (.int .u32 (a1 : Int)) ∧ w.cell? ⟨g, o + i * 3 + 2, none⟩ = some (.int .i64 a2)) ∧ (-9223372036854775808 ≤ a0 ∧ a0 ≤ 9223372036854775807) ∧ a1 < 4294967296 ∧ (-9223372036854775808 ≤ a2 ∧ a2 ≤ 9223372036854775807) := by
  obtain ⟨g, o, e, hg, hc⟩ := Cels.at h hi
  rw [show arK.length = 3 from rfl] at hc
  obtain ⟨v0, c0, k0⟩ := hc 0 _ rfl
  obtain ⟨a0, rfl, b0⟩ := Kd.i64 k0
  obtain ⟨v1, c1, k1⟩ := hc 1 _ rfl
  obtain ⟨a1, rfl, b1⟩ := Kd.u32 k1
  obtain ⟨v2, c2, k2⟩ := hc 2 _ rfl
  obtain ⟨a2, rfl, b2⟩ := Kd.i64 k2
  exact ⟨g, o, a0, a1, a2, e, hg, ⟨by simpa [Nat.add_assoc] using c0, by simpa [Nat.add_assoc] using c1, by simpa [Nat.add_assoc] using c2⟩, b0, b1, b2⟩
theorem rd_at {w : World} {ao : Option Addr} {len cap i : Nat} (h : Flat w rdK (.slice ao len cap)) (hi : i < len) : ∃ (g o : Nat) (a0 : Int) (a1 : Int) (a2 : Int) (a3 : ByteArray) (a4 : Int), ao = some ⟨g, o, none⟩ ∧ g < w.heap.size ∧ (w.cell? ⟨g, o + i * 5, none⟩ = some (.int .i64 a0) ∧ w.cell? ⟨g, o + i * 5 + 1, none⟩ = some (.int .i64 a1) ∧ w.cell? ⟨g, o + i * 5 + 2, none⟩ = some (.int .i64 a2) ∧ w.cell? ⟨g, o + i * 5 + 3, none⟩ = some (.string a3) ∧ w.cell? ⟨g, o + i * 5 + 4, none⟩ = some (.int .i64 a4)) ∧ (-9223372036854775808 ≤ a0 ∧ a0 ≤ 9223372036854775807) ∧ (-9223372036854775808 ≤ a1 ∧ a1 ≤ 9223372036854775807) ∧ (-9223372036854775808 ≤ a2 ∧ a2 ≤ 9223372036854775807) ∧ a3.size ≤ 9223372036854775807 ∧ (-9223372036854775808 ≤ a4 ∧ a4 ≤ 9223372036854775807) := by
  obtain ⟨g, o, e, hg, hc⟩ := Cels.at h hi
  rw [show rdK.length = 5 from rfl] at hc
  obtain ⟨v0, c0, k0⟩ := hc 0 _ rfl
  obtain ⟨a0, rfl, b0⟩ := Kd.i64 k0
  obtain ⟨v1, c1, k1⟩ := hc 1 _ rfl
  obtain ⟨a1, rfl, b1⟩ := Kd.i64 k1
  obtain ⟨v2, c2, k2⟩ := hc 2 _ rfl
  obtain ⟨a2, rfl, b2⟩ := Kd.i64 k2
  obtain ⟨v3, c3, k3⟩ := hc 3 _ rfl
  obtain ⟨a3, rfl, b3⟩ := k3
  obtain ⟨v4, c4, k4⟩ := hc 4 _ rfl
  obtain ⟨a4, rfl, b4⟩ := Kd.i64 k4
  unfold maxLen at b3
  exact ⟨g, o, a0, a1, a2, a3, a4, e, hg, ⟨by simpa [Nat.add_assoc] using c0, by simpa [Nat.add_assoc] using c1, by simpa [Nat.add_assoc] using c2, by simpa [Nat.add_assoc] using c3, by simpa [Nat.add_assoc] using c4⟩, b0, b1, b2, by omega, b4⟩
theorem nb_at {w : World} {ao : Option Addr} {len cap i : Nat} (h : Flat w nbK (.slice ao len cap)) (hi : i < len) : ∃ (g o : Nat) (a0 : Nat) (a1 : Int) (a2 : ByteArray) (a3 : ByteArray), ao = some ⟨g, o, none⟩ ∧ g < w.heap.size ∧ (w.cell? ⟨g, o + i * 4, none⟩ = some (.int .u32 (a0 : Int)) ∧ w.cell? ⟨g, o + i * 4 + 1, none⟩ = some (.int .i64 a1) ∧ w.cell? ⟨g, o + i * 4 + 2, none⟩ = some (.string a2) ∧ w.cell? ⟨g, o + i * 4 + 3, none⟩ = some (.string a3)) ∧ a0 < 4294967296 ∧ (-9223372036854775808 ≤ a1 ∧ a1 ≤ 9223372036854775807) ∧ a2.size ≤ 9223372036854775807 ∧ a3.size ≤ 9223372036854775807 := by
  obtain ⟨g, o, e, hg, hc⟩ := Cels.at h hi
  rw [show nbK.length = 4 from rfl] at hc
  obtain ⟨v0, c0, k0⟩ := hc 0 _ rfl
  obtain ⟨a0, rfl, b0⟩ := Kd.u32 k0
  obtain ⟨v1, c1, k1⟩ := hc 1 _ rfl
  obtain ⟨a1, rfl, b1⟩ := Kd.i64 k1
  obtain ⟨v2, c2, k2⟩ := hc 2 _ rfl
  obtain ⟨a2, rfl, b2⟩ := k2
  obtain ⟨v3, c3, k3⟩ := hc 3 _ rfl
  obtain ⟨a3, rfl, b3⟩ := k3
  unfold maxLen at b2
  unfold maxLen at b3
  exact ⟨g, o, a0, a1, a2, a3, e, hg, ⟨by simpa [Nat.add_assoc] using c0, by simpa [Nat.add_assoc] using c1, by simpa [Nat.add_assoc] using c2, by simpa [Nat.add_assoc] using c3⟩, b0, b1, by omega, by omega⟩
theorem pf_at {w : World} {ao : Option Addr} {len cap i : Nat} (h : Flat w pfK (.slice ao len cap)) (hi : i < len) : ∃ (g o : Nat) (a0 : Nat) (a1 : Int), ao = some ⟨g, o, none⟩ ∧ g < w.heap.size ∧ (w.cell? ⟨g, o + i * 2, none⟩ = some (.int .u32 (a0 : Int)) ∧ w.cell? ⟨g, o + i * 2 + 1, none⟩ = some (.int .i64 a1)) ∧ a0 < 4294967296 ∧ (-9223372036854775808 ≤ a1 ∧ a1 ≤ 9223372036854775807) := by
  obtain ⟨g, o, e, hg, hc⟩ := Cels.at h hi
  rw [show pfK.length = 2 from rfl] at hc
  obtain ⟨v0, c0, k0⟩ := hc 0 _ rfl
  obtain ⟨a0, rfl, b0⟩ := Kd.u32 k0
  obtain ⟨v1, c1, k1⟩ := hc 1 _ rfl
  obtain ⟨a1, rfl, b1⟩ := Kd.i64 k1
  exact ⟨g, o, a0, a1, e, hg, ⟨by simpa [Nat.add_assoc] using c0, by simpa [Nat.add_assoc] using c1⟩, b0, b1⟩
theorem ag_at {w : World} {ao : Option Addr} {len cap i : Nat} (h : Flat w agK (.slice ao len cap)) (hi : i < len) : ∃ (g o : Nat) (a0 : Nat) (a1 : Int) (a2 : Bool), ao = some ⟨g, o, none⟩ ∧ g < w.heap.size ∧ (w.cell? ⟨g, o + i * 3, none⟩ = some (.int .u32 (a0 : Int)) ∧ w.cell? ⟨g, o + i * 3 + 1, none⟩ = some (.int .i64 a1) ∧ w.cell? ⟨g, o + i * 3 + 2, none⟩ = some (.bool a2)) ∧ a0 < 4294967296 ∧ (-9223372036854775808 ≤ a1 ∧ a1 ≤ 9223372036854775807) := by
  obtain ⟨g, o, e, hg, hc⟩ := Cels.at h hi
  rw [show agK.length = 3 from rfl] at hc
  obtain ⟨v0, c0, k0⟩ := hc 0 _ rfl
  obtain ⟨a0, rfl, b0⟩ := Kd.u32 k0
  obtain ⟨v1, c1, k1⟩ := hc 1 _ rfl
  obtain ⟨a1, rfl, b1⟩ := Kd.i64 k1
  obtain ⟨v2, c2, k2⟩ := hc 2 _ rfl
  obtain ⟨a2, rfl⟩ := k2
  exact ⟨g, o, a0, a1, a2, e, hg, ⟨by simpa [Nat.add_assoc] using c0, by simpa [Nat.add_assoc] using c1, by simpa [Nat.add_assoc] using c2⟩, b0, b1⟩
theorem cn_at {w : World} {ao : Option Addr} {len cap i : Nat} (h : Flat w cnK (.slice ao len cap)) (hi : i < len) : ∃ (g o : Nat) (a0 : Nat) (a1 : Int) (a2 : Nat) (a3 : Int) (a4 : Bool), ao = some ⟨g, o, none⟩ ∧ g < w.heap.size ∧ (w.cell? ⟨g, o + i * 5, none⟩ = some (.int .u32 (a0 : Int)) ∧ w.cell? ⟨g, o + i * 5 + 1, none⟩ = some (.int .i64 a1) ∧ w.cell? ⟨g, o + i * 5 + 2, none⟩ = some (.int .u32 (a2 : Int)) ∧ w.cell? ⟨g, o + i * 5 + 3, none⟩ = some (.int .i64 a3) ∧ w.cell? ⟨g, o + i * 5 + 4, none⟩ = some (.bool a4)) ∧ a0 < 4294967296 ∧ (-9223372036854775808 ≤ a1 ∧ a1 ≤ 9223372036854775807) ∧ a2 < 4294967296 ∧ (-9223372036854775808 ≤ a3 ∧ a3 ≤ 9223372036854775807) := by
  obtain ⟨g, o, e, hg, hc⟩ := Cels.at h hi
  rw [show cnK.length = 5 from rfl] at hc
  obtain ⟨v0, c0, k0⟩ := hc 0 _ rfl
  obtain ⟨a0, rfl, b0⟩ := Kd.u32 k0
  obtain ⟨v1, c1, k1⟩ := hc 1 _ rfl
  obtain ⟨a1, rfl, b1⟩ := Kd.i64 k1
  obtain ⟨v2, c2, k2⟩ := hc 2 _ rfl
  obtain ⟨a2, rfl, b2⟩ := Kd.u32 k2
  obtain ⟨v3, c3, k3⟩ := hc 3 _ rfl
  obtain ⟨a3, rfl, b3⟩ := Kd.i64 k3
  obtain ⟨v4, c4, k4⟩ := hc 4 _ rfl
  obtain ⟨a4, rfl⟩ := k4
  exact ⟨g, o, a0, a1, a2, a3, a4, e, hg, ⟨by simpa [Nat.add_assoc] using c0, by simpa [Nat.add_assoc] using c1, by simpa [Nat.add_assoc] using c2, by simpa [Nat.add_assoc] using c3, by simpa [Nat.add_assoc] using c4⟩, b0, b1, b2, b3⟩
theorem pl_at {w : World} {ao : Option Addr} {len cap i : Nat} (h : Nest w plK (.slice ao len cap)) (hi : i < len) : ∃ (g o : Nat) (a0 : ByteArray) (a1 : Option Addr) (n1 c1 : Nat), ao = some ⟨g, o, none⟩ ∧ g < w.heap.size ∧ (w.cell? ⟨g, o + i * 2, none⟩ = some (.string a0) ∧ w.cell? ⟨g, o + i * 2 + 1, none⟩ = some (.slice a1 n1 c1)) ∧ a0.size ≤ 9223372036854775807 ∧ Flat w prK (.slice a1 n1 c1) ∧ n1 ≤ c1 ∧ c1 ≤ 9223372036854775807 := by
  obtain ⟨g, o, e, hg, hc⟩ := Cels.at h hi
  rw [show plK.length = 2 from rfl] at hc
  obtain ⟨v0, c0, k0⟩ := hc 0 _ rfl
  obtain ⟨v1, c1, k1⟩ := hc 1 _ rfl
  obtain ⟨a0, rfl, b0⟩ := k0
  have k2 : Flat w prK v1 := k1
  obtain ⟨a1, n1, q1, rfl, hl, hm⟩ := Cels.form k2
  unfold maxLen at b0
  exact ⟨g, o, a0, a1, n1, q1, e, hg, ⟨by simpa using c0, by simpa [Nat.add_assoc] using c1⟩, by omega, k2, hl, hm⟩
theorem rm_at {w : World} {ao : Option Addr} {len cap i : Nat} (h : Nest w rmK (.slice ao len cap)) (hi : i < len) : ∃ (g o : Nat) (a0 : ByteArray) (a1 : Option Addr) (n1 c1 : Nat), ao = some ⟨g, o, none⟩ ∧ g < w.heap.size ∧ (w.cell? ⟨g, o + i * 2, none⟩ = some (.string a0) ∧ w.cell? ⟨g, o + i * 2 + 1, none⟩ = some (.slice a1 n1 c1)) ∧ a0.size ≤ 9223372036854775807 ∧ Flat w clK (.slice a1 n1 c1) ∧ n1 ≤ c1 ∧ c1 ≤ 9223372036854775807 := by
  obtain ⟨g, o, e, hg, hc⟩ := Cels.at h hi
  rw [show rmK.length = 2 from rfl] at hc
  obtain ⟨v0, c0, k0⟩ := hc 0 _ rfl
  obtain ⟨v1, c1, k1⟩ := hc 1 _ rfl
  obtain ⟨a0, rfl, b0⟩ := k0
  have k2 : Flat w clK v1 := k1
  obtain ⟨a1, n1, q1, rfl, hl, hm⟩ := Cels.form k2
  unfold maxLen at b0
  exact ⟨g, o, a0, a1, n1, q1, e, hg, ⟨by simpa using c0, by simpa [Nat.add_assoc] using c1⟩, by omega, k2, hl, hm⟩
theorem ac_at {w : World} {ao : Option Addr} {len cap i : Nat} (h : Nest w acK (.slice ao len cap)) (hi : i < len) : ∃ (g o : Nat) (a0 : ByteArray) (a1 : Option Addr) (n1 c1 : Nat), ao = some ⟨g, o, none⟩ ∧ g < w.heap.size ∧ (w.cell? ⟨g, o + i * 2, none⟩ = some (.string a0) ∧ w.cell? ⟨g, o + i * 2 + 1, none⟩ = some (.slice a1 n1 c1)) ∧ a0.size ≤ 9223372036854775807 ∧ Flat w ruK (.slice a1 n1 c1) ∧ n1 ≤ c1 ∧ c1 ≤ 9223372036854775807 := by
  obtain ⟨g, o, e, hg, hc⟩ := Cels.at h hi
  rw [show acK.length = 2 from rfl] at hc
  obtain ⟨v0, c0, k0⟩ := hc 0 _ rfl
  obtain ⟨v1, c1, k1⟩ := hc 1 _ rfl
  obtain ⟨a0, rfl, b0⟩ := k0
  have k2 : Flat w ruK v1 := k1
  obtain ⟨a1, n1, q1, rfl, hl, hm⟩ := Cels.form k2
  unfold maxLen at b0
  exact ⟨g, o, a0, a1, n1, q1, e, hg, ⟨by simpa using c0, by simpa [Nat.add_assoc] using c1⟩, by omega, k2, hl, hm⟩
def rtK : List K3 := [.o (.s), .o (.i .i64), .f ifK, .n plK, .n rmK, .n acK, .f trK, .f stK, .o (.b), .o (.i .i64), .f arK, .f rdK, .o (.b), .o (.i .i64), .o (.s), .o (.s), .f rdK, .o (.b), .o (.i .i64), .o (.i .i64), .f nbK, .f pfK, .f agK, .f cnK, .f rdK]
/-- A router in memory. -/
structure Rtr where
  name : ByteArray
  asn : Int
  ifs : Value
  lists : Value
  maps : Value
  acls : Value
  nat : Value
  sts : Value
  lsOn : Bool
  lsAd : Int
  lsRa : Value
  lsRe : Value
  dvOn : Bool
  dvAd : Int
  dvIn : ByteArray
  dvOut : ByteArray
  dvRe : Value
  pvOn : Bool
  pvEx : Int
  pvIn : Int
  pvNb : Value
  pvNw : Value
  pvAg : Value
  pvCo : Value
  pvRe : Value
abbrev Rtr.cells (r : Rtr) : Array Value := #[.string r.name, .int .i64 r.asn, r.ifs, r.lists, r.maps, r.acls, r.nat, r.sts, .bool r.lsOn, .int .i64 r.lsAd, r.lsRa, r.lsRe, .bool r.dvOn, .int .i64 r.dvAd, .string r.dvIn, .string r.dvOut, r.dvRe, .bool r.pvOn, .int .i64 r.pvEx, .int .i64 r.pvIn, r.pvNb, r.pvNw, r.pvAg, r.pvCo, r.pvRe]
structure Rtr.ok (w : World) (r : Rtr) : Prop where
  name : r.name.size ≤ 9223372036854775807
  asn : -9223372036854775808 ≤ r.asn ∧ r.asn ≤ 9223372036854775807
  ifs : Flat w ifK r.ifs
  lists : Nest w plK r.lists
  maps : Nest w rmK r.maps
  acls : Nest w acK r.acls
  nat : Flat w trK r.nat
  sts : Flat w stK r.sts
  lsAd : -9223372036854775808 ≤ r.lsAd ∧ r.lsAd ≤ 9223372036854775807
  lsRa : Flat w arK r.lsRa
  lsRe : Flat w rdK r.lsRe
  dvAd : -9223372036854775808 ≤ r.dvAd ∧ r.dvAd ≤ 9223372036854775807
  dvIn : r.dvIn.size ≤ 9223372036854775807
  dvOut : r.dvOut.size ≤ 9223372036854775807
  dvRe : Flat w rdK r.dvRe
  pvEx : -9223372036854775808 ≤ r.pvEx ∧ r.pvEx ≤ 9223372036854775807
  pvIn : -9223372036854775808 ≤ r.pvIn ∧ r.pvIn ≤ 9223372036854775807
  pvNb : Flat w nbK r.pvNb
  pvNw : Flat w pfK r.pvNw
  pvAg : Flat w agK r.pvAg
  pvCo : Flat w cnK r.pvCo
  pvRe : Flat w rdK r.pvRe
set_option maxRecDepth 100000 in
theorem open_router {H : Type} {enc : TypeId × Value → H} {w : World} {sp : Nat → Bool} {held : Bool} {r : Reach} {b0 : Nat} {v : Value} {d : DataW H} {ps : List MemPlace}
    (hv : Value.okWide Tryz.prog w r b0 41 v) (h : DataW.Trod enc Tryz.prog w 0 sp held 41 v d ps) : ∃ q : Rtr, v = .agg q.cells ∧ q.ok w := by
  obtain ⟨cs, rfl, hsz⟩ := okWide_struct (fs := Tryz.prog.fieldsOf 41) (by kernel_rfl) hv
  obtain ⟨fuel, hf⟩ := h
  have hl : cs.toList.length = 25 := by
    obtain ⟨_, _, _, _, hl, _⟩ := DataW.trod_struct (fs := Tryz.prog.fieldsOf 41) (by kernel_rfl) hf
    have hc : Tryz.prog.cellsOf 41 = 25 := by kernel_rfl
    rw [hc] at hl
    exact hl
  have lf : ∀ (j : Nat) (k : K3), rtK[j]? = some k → ∃ u, leafT Tryz.prog 5 41 j = some u ∧ k.chk Tryz.prog u = true := by
    have hk : ((List.range rtK.length).all fun j => match leafT Tryz.prog 5 41 j, rtK[j]? with
      | some u, some k => k.chk Tryz.prog u
      | _, _ => false) = true := by kernel_rfl
    intro j k hjk
    have hj : j < rtK.length := by
      rcases Nat.lt_or_ge j rtK.length with h1 | h1
      · exact h1
      · rw [List.getElem?_eq_none h1] at hjk; cases hjk
    have := List.all_eq_true.1 hk j (List.mem_range.2 hj)
    rw [hjk] at this
    cases hu : leafT Tryz.prog 5 41 j with
    | none => rw [hu] at this; cases this
    | some u => rw [hu] at this; exact ⟨u, rfl, this⟩
  have at_ : ∀ (j : Nat) (k : K3), rtK[j]? = some k → ∃ c, cs.toList[j]? = some c ∧ k.is w c := fun j k hjk => by
    obtain ⟨u, hu, hck⟩ := lf j k hjk
    obtain ⟨c, y, fuel', h1, h2⟩ := leaf_trod 5 hu hf
    exact ⟨c, h1, K3.of hck h2⟩
  clear lf hf hsz hv
  obtain ⟨v0, c0, k0⟩ := at_ 0 _ rfl
  obtain ⟨a0, rfl, b0⟩ := k0
  obtain ⟨v1, c1, k1⟩ := at_ 1 _ rfl
  obtain ⟨a1, rfl, b1⟩ := Kd.i64 k1
  obtain ⟨v2, c2, k2⟩ := at_ 2 _ rfl
  obtain ⟨v3, c3, k3⟩ := at_ 3 _ rfl
  obtain ⟨v4, c4, k4⟩ := at_ 4 _ rfl
  obtain ⟨v5, c5, k5⟩ := at_ 5 _ rfl
  obtain ⟨v6, c6, k6⟩ := at_ 6 _ rfl
  obtain ⟨v7, c7, k7⟩ := at_ 7 _ rfl
  obtain ⟨v8, c8, k8⟩ := at_ 8 _ rfl
  obtain ⟨a8, rfl⟩ := k8
  obtain ⟨v9, c9, k9⟩ := at_ 9 _ rfl
  obtain ⟨a9, rfl, b9⟩ := Kd.i64 k9
  obtain ⟨v10, c10, k10⟩ := at_ 10 _ rfl
  obtain ⟨v11, c11, k11⟩ := at_ 11 _ rfl
  obtain ⟨v12, c12, k12⟩ := at_ 12 _ rfl
  obtain ⟨a12, rfl⟩ := k12
  obtain ⟨v13, c13, k13⟩ := at_ 13 _ rfl
  obtain ⟨a13, rfl, b13⟩ := Kd.i64 k13
  obtain ⟨v14, c14, k14⟩ := at_ 14 _ rfl
  obtain ⟨a14, rfl, b14⟩ := k14
  obtain ⟨v15, c15, k15⟩ := at_ 15 _ rfl
  obtain ⟨a15, rfl, b15⟩ := k15
  obtain ⟨v16, c16, k16⟩ := at_ 16 _ rfl
  obtain ⟨v17, c17, k17⟩ := at_ 17 _ rfl
  obtain ⟨a17, rfl⟩ := k17
  obtain ⟨v18, c18, k18⟩ := at_ 18 _ rfl
  obtain ⟨a18, rfl, b18⟩ := Kd.i64 k18
  obtain ⟨v19, c19, k19⟩ := at_ 19 _ rfl
  obtain ⟨a19, rfl, b19⟩ := Kd.i64 k19
  obtain ⟨v20, c20, k20⟩ := at_ 20 _ rfl
  obtain ⟨v21, c21, k21⟩ := at_ 21 _ rfl
  obtain ⟨v22, c22, k22⟩ := at_ 22 _ rfl
  obtain ⟨v23, c23, k23⟩ := at_ 23 _ rfl
  obtain ⟨v24, c24, k24⟩ := at_ 24 _ rfl
  unfold maxLen at b0
  unfold maxLen at b14
  unfold maxLen at b15
  refine ⟨⟨a0, a1, v2, v3, v4, v5, v6, v7, a8, a9, v10, v11, a12, a13, a14, a15, v16, a17, a18, a19, v20, v21, v22, v23, v24⟩, ?_, ⟨by omega, b1, k2, k3, k4, k5, k6, k7, b9, k10, k11, b13, by omega, by omega, k16, b18, b19, k20, k21, k22, k23, k24⟩⟩
  obtain ⟨l⟩ := cs
  simp only at hl c0 c1 c2 c3 c4 c5 c6 c7 c8 c9 c10 c11 c12 c13 c14 c15 c16 c17 c18 c19 c20 c21 c22 c23 c24
  match l, hl with
  | [x0, x1, x2, x3, x4, x5, x6, x7, x8, x9, x10, x11, x12, x13, x14, x15, x16, x17, x18, x19, x20, x21, x22, x23, x24], _ =>
    simp only [List.getElem?_cons_zero, List.getElem?_cons_succ, Option.some.injEq] at c0 c1 c2 c3 c4 c5 c6 c7 c8 c9 c10 c11 c12 c13 c14 c15 c16 c17 c18 c19 c20 c21 c22 c23 c24
    subst c0 c1 c2 c3 c4 c5 c6 c7 c8 c9 c10 c11 c12 c13 c14 c15 c16 c17 c18 c19 c20 c21 c22 c23 c24
    rfl

end Go.Proofs.YtdgnbbmgcgfibaaGreatDoor
