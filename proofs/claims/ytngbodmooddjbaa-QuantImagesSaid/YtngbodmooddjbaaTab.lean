/-
  Truth tables: what the functions of the reference netverifyref26 return.
-/
import Derived.Test.YtngbodmooddjbaaW10
import Derived.Maps.AppendAt
import Derived.RegionTactic
import Derived.OwnWalk
import Derived.ArgAppend
namespace Go.Proofs.Ytngbodmooddjbaa
open Go.RowKit

/-- A slice that reads as n elements, the cells xs. -/
def SrcAt (w : World) (v : Value) (size n : Nat) (xs : List Value) : Prop :=
  ∃ ao c, v = .slice ao n c ∧ xs.length = n * size ∧ (n = 0 ∨ ∃ g o, ao = some ⟨g, o, none⟩ ∧ g < w.heap.size ∧ ∀ j u, xs[j]? = some u → w.cell? ⟨g, o + j, none⟩ = some u)

theorem SrcAt.kp {A : Nat → Prop} {w w' : World} {v : Value} {size n : Nat} {xs : List Value} (h : SrcAt w v size n xs) (k : Kp A w w') (hA : n ≠ 0 → ∀ g o m c, v = .slice (some ⟨g, o, none⟩) m c → ¬ A g) : SrcAt w' v size n xs := by
  obtain ⟨ao, c, hv, hl, h⟩ := h
  refine ⟨ao, c, hv, hl, ?_⟩
  rcases h with h | ⟨g, o, rfl, hg, h⟩
  · exact .inl h
  · by_cases hn : n = 0
    · exact .inl hn
    exact .inr ⟨g, o, rfl, Nat.lt_of_lt_of_le hg k.size, fun j u hu => by rw [k.cell hg (hA hn g o _ _ hv)]; exact h j u hu⟩
theorem SrcAt.no {w w' : World} {v : Value} {size n : Nat} {xs : List Value} (h : SrcAt w v size n xs) (k : Kp No w w') : SrcAt w' v size n xs := h.kp k (fun _ _ _ _ _ _ x => x)

theorem SrcAt.of_bools {w : World} {v : Value} {l : List Bool} (h : Bools w v l) : SrcAt w v 1 l.length (l.map .bool) := by
  obtain ⟨ao, c, hv, hl, h⟩ := h
  refine ⟨ao, c, hv, by simp, ?_⟩
  rcases h with h | ⟨g, o, rfl, h⟩
  · exact .inl (by simp [h])
  · by_cases h0 : l = []
    · exact .inl (by simp [h0])
    have hlt : 0 < l.length := List.length_pos_iff.2 h0
    refine .inr ⟨g, o, rfl, ?_, fun j u hu => ?_⟩
    · exact World.block_lt_of_cell? _ _ (h 0 (l[0]) (by simp))
    · rw [List.getElem?_map] at hu
      obtain ⟨b, hb, rfl⟩ := Option.map_eq_some_iff.1 hu
      exact h j b hb

theorem SrcAt.of_row {w : World} {base e size n : Nat} {v : Value} {xs : List Value} (h : w.ownsRow base e size v n xs) : SrcAt w v size n xs := by
  rcases h.2 with ⟨rfl, h0⟩ | ⟨g, cap, cur, rfl, hb, hg, h1, h2, h3, h4⟩
  · exact ⟨none, 0, by rw [h0], h.1, .inl h0⟩
  · refine ⟨_, _, rfl, h.1, ?_⟩
    rcases Nat.eq_zero_or_pos n with h0 | h0
    · exact .inl h0
    · obtain ⟨g', cap', hv, _, _, _, hc, _⟩ := ownsRow_open h h0
      cases hv
      exact .inr ⟨g, 0, rfl, heap_lt hg, fun j u hu => by rw [Nat.zero_add]; exact hc j u hu⟩

section
variable {P : Program} {w : World}

theorem run_append_src {t e : TypeId} (ty : TypeId) {base : Nat} {i : TypeInfo} {z : Value} {size bytes : Nat} (ht : P.underlying t = some (.slice e)) (hi : P.info? e = some i) (hz : i.zero = some z)
    (hsize : i.size = size) (hby : i.bytes = bytes) (hzs : z.cells.size = size) (hsz : 0 < size) {v u : Value} {n m : Nat} {xs news : List Value} (hown : w.ownsRow base e size v n xs) (hsrc : SrcAt w u size m news)
    (h1 : ∀ x ∈ news, x.oneCell' = true) (h63 : n + m ≤ maxLen) (hbytes : (n + m) * bytes ≤ 140737488355328) (hbase : base ≤ w.heap.size) :
    ∃ v' w', (Builtin.append_ #[t, t] ty #[v, u]).run P w = .ok v' w' ∧ w'.ownsRow base e size v' (n + m) (xs ++ news) ∧ w.grownBy w' v.ownBlock ∧ (v'.ownBlock = v.ownBlock ∨ v'.ownBlock = some w.heap.size) := by
  obtain ⟨ao, c, rfl, hl, hc⟩ := hsrc
  cases ao with
  | none =>
    have hm : m = 0 := by
      rcases hc with hc | ⟨g, o, hx, _⟩
      · exact hc
      · cases hx
    subst hm
    have hnil : news = [] := List.eq_nil_of_length_eq_zero (by simpa using hl)
    subst hnil
    refine ⟨v, w, ?_, by simpa using hown, World.grownBy.refl w _, .inl rfl⟩
    rcases hown.2 with ⟨rfl, rfl⟩ | ⟨g, cap, cur, rfl, _, _, hnc, _⟩
    · simp [Builtin.append_, run_underlying ht, sizeOf, typeInfo, hi, Builtin.lenOf, Builtin.firstCells]
    · simp [Builtin.append_, run_underlying ht, sizeOf, typeInfo, hi, Builtin.lenOf, Builtin.firstCells, hnc, storeCells]
  | some ad =>
    have hcells : ∀ j x, news[j]? = some x → w.cell? (ad.add j) = some x := by
      intro j x hx
      rcases hc with hc | ⟨g, o, he, _, hcc⟩
      · subst hc
        have hnil : news = [] := List.eq_nil_of_length_eq_zero (by simpa using hl)
        subst hnil
        simp at hx
      · cases he
        have e1 : (Addr.mk g o none).add j = ⟨g, o + j, none⟩ := Go.WideShapes.add_plain ..
        rw [e1]
        exact hcc j x hx
    obtain ⟨v', w', hr, h2, h3, _, h5⟩ := run_append_own_at (P := P) w base t ty e i z size bytes ht hi hz hsize hby hzs hsz v n xs hown ad m c news hl hcells h1 h63 hbytes hbase
    exact ⟨v', w', hr, h2, h3, h5⟩

theorem wp_append_src {o : Oper} {a : Act} {K : Act → World → Prop} {Q : Exit → Act → World → Prop} {s x : Operand} {t : TypeId}
    (ho : o.op = .call { callee := .builtin .append, args := #[s, x], argTypes := #[t, t] })
    {base : Nat} {e : TypeId} {i : TypeInfo} {z : Value} {size bytes : Nat} (ht : P.underlying t = some (.slice e)) (hi : P.info? e = some i) (hz : i.zero = some z)
    (hsize : i.size = size) (hby : i.bytes = bytes) (hzs : z.cells.size = size) (hsz : 0 < size) {v u : Value} {n m : Nat} {xs news : List Value} (hs : a.eval s = v) (hown : w.ownsRow base e size v n xs) (hx : a.eval x = u) (hsrc : SrcAt w u size m news)
    (h1 : ∀ x ∈ news, x.oneCell' = true) (h63 : n + m ≤ maxLen) (hbytes : (n + m) * bytes ≤ 140737488355328) (hbase : base ≤ w.heap.size)
    (h : ∀ v' w', w'.ownsRow base e size v' (n + m) (xs ++ news) → w.grownBy w' v.ownBlock → (v'.ownBlock = v.ownBlock ∨ v'.ownBlock = some w.heap.size) → K (a.put o.dst v') w') : o.wp P a w K Q := by
  obtain ⟨v', w', hr, h2, h3, h4⟩ := run_append_src (P := P) o.type ht hi hz hsize hby hzs hsz hown hsrc h1 h63 hbytes hbase
  unfold Oper.wp execOp
  simp only [ho, resolve, invoke, builtin, Sem.run_bind, Sem.run_pure, Result.andThen_ok, List.map_toArray, List.map_cons, List.map_nil, hs, hx, hr]
  exact h v' w' h2 h3 h4

/-- At a plain region. -/
theorem wpList_append_src {ops : Array Oper} {rest : List Oper} {o : Oper} {a : Act} {Q : Exit → Act → World → Prop} (hgd : o.guard = none) (s x : Operand) {t : TypeId}
    (ho : o.op = .call { callee := .builtin .append, args := #[s, x], argTypes := #[t, t] })
    {base : Nat} {e : TypeId} {i : TypeInfo} {z : Value} {size bytes : Nat} (ht : P.underlying t = some (.slice e)) (hi : P.info? e = some i) (hz : i.zero = some z)
    (hsize : i.size = size) (hby : i.bytes = bytes) (hzs : z.cells.size = size) (hsz : 0 < size) {v u : Value} {n m : Nat} {xs news : List Value} (hs : a.eval s = v) (hown : w.ownsRow base e size v n xs) (hx : a.eval x = u) (hsrc : SrcAt w u size m news)
    (h1 : ∀ x ∈ news, x.oneCell' = true) (h63 : n + m ≤ maxLen) (hbytes : (n + m) * bytes ≤ 140737488355328) (hbase : base ≤ w.heap.size)
    (h : ∀ v' w', w'.ownsRow base e size v' (n + m) (xs ++ news) → w.grownBy w' v.ownBlock → (v'.ownBlock = v.ownBlock ∨ v'.ownBlock = some w.heap.size) → wpList P ops Q rest (a.put o.dst v') w') : wpList P ops Q (o :: rest) a w :=
  wpList_plain hgd fun _ hK => wp_append_src ho ht hi hz hsize hby hzs hsz hs hown hx hsrc h1 h63 hbytes hbase fun v' w' h2 h3 h4 => hK _ _ (h v' w' h2 h3 h4)

/-- At a region that draws its order. -/
theorem step_append_src {ops : Array Oper} {o : Oper} {a : Act} {K : Act → World → Prop} {Q : Exit → Act → World → Prop} {E : Prop} (hgd : o.guard = none) (s x : Operand) {t : TypeId}
    (ho : o.op = .call { callee := .builtin .append, args := #[s, x], argTypes := #[t, t] })
    {base : Nat} {e : TypeId} {i : TypeInfo} {z : Value} {size bytes : Nat} (ht : P.underlying t = some (.slice e)) (hi : P.info? e = some i) (hz : i.zero = some z)
    (hsize : i.size = size) (hby : i.bytes = bytes) (hzs : z.cells.size = size) (hsz : 0 < size) {v u : Value} {n m : Nat} {xs news : List Value} (hs : a.eval s = v) (hown : w.ownsRow base e size v n xs) (hx : a.eval x = u) (hsrc : SrcAt w u size m news)
    (h1 : ∀ x ∈ news, x.oneCell' = true) (h63 : n + m ≤ maxLen) (hbytes : (n + m) * bytes ≤ 140737488355328) (hbase : base ≤ w.heap.size)
    (h : ∀ v' w', w'.ownsRow base e size v' (n + m) (xs ++ news) → w.grownBy w' v.ownBlock → (v'.ownBlock = v.ownBlock ∨ v'.ownBlock = some w.heap.size) → K (a.put o.dst v') w') :
    if Region.wanted o (yielded ops a.tmps) = true then Oper.wp P o a w K Q else E := by
  have hw : Region.wanted o (yielded ops a.tmps) = true := by simp [Region.wanted, hgd]
  rw [if_pos hw]
  exact wp_append_src ho ht hi hz hsize hby hzs hsz hs hown hx hsrc h1 h63 hbytes hbase h
end

section
variable {P : Program} {w : World}
/-- append of one element: what the old row held is there behind it. -/
theorem run_append_kept {t e : TypeId} (ty : TypeId) {base : Nat} {i : TypeInfo} {z : Value} {bytes : Nat} (ht : P.underlying t = some (.slice e)) (hi : P.info? e = some i) (hz : i.zero = some z)
    (hsize : i.size = 1) (hby : i.bytes = bytes) (hzs : z.cells.size = 1) {ga n ca : Nat} {xs : List Value} {u : Value} (hown : w.ownsRow base e 1 (.slice (some ⟨ga, 0, none⟩) n ca) n xs)
    (ad : Addr) (c : Nat) (hnews : ∀ j x, [u][j]? = some x → w.cell? (ad.add j) = some x) (h1 : u.oneCell' = true) (h63 : n + 1 ≤ maxLen) (hbytes : (n + 1) * bytes ≤ 140737488355328) (hbase : base ≤ w.heap.size) (H : Nat) (hH : w.heap.size = H) :
    ∃ g cap w', (Builtin.append_ #[t, t] ty #[.slice (some ⟨ga, 0, none⟩) n ca, .slice (some ad) 1 c]).run P w = .ok (.slice (some ⟨g, 0, none⟩) (n + 1) cap) w' ∧ w'.ownsRow base e 1 (.slice (some ⟨g, 0, none⟩) (n + 1) cap) (n + 1) (xs ++ [u]) ∧ w.grownBy w' (some ga) ∧ (g = ga ∨ g = H) ∧ g < w'.heap.size ∧
      ∀ j, j < n → w'.cell? ⟨ga, j, none⟩ = w.cell? ⟨ga, j, none⟩ := by
  have h1' : ∀ x ∈ [u], x.oneCell' = true := by intro x hx; simp at hx; rw [hx]; exact h1
  obtain ⟨g, cap, w', hr, r1, r2, r3, r4⟩ := run_append_lies (P := P) w t ty base e i z 1 bytes ht hi hz hsize hby hzs (by omega) (.slice (some ⟨ga, 0, none⟩) n ca) n xs hown ad 1 c [u] rfl hnews h1' (by omega) h63 hbytes hbase H hH
  refine ⟨g, cap, w', hr, r1, r2, ?_, r4, fun j hj => ?_⟩
  · rcases r3 with h | h
    · exact .inl (by simpa [Value.ownBlock] using h.symm)
    · exact .inr h
  · obtain ⟨g', cap', hv, _, _, ⟨cur, hcur, hcs, htake⟩, hcell, hfz⟩ := ownsRow_open hown (by omega)
    cases hv
    by_cases hroom : n + 1 ≤ ca
    · have h2 := run_append_room_cells (P := P) w t ty e i ht hi ga 0 n ca ad 1 c [u] (by rw [hsize]; rfl) hnews h1' hroom (fun k hk => by
        have hk0 : k = 0 := by simpa using hk
        subst hk0
        rw [hsize, cell_of_row w ga _ cur e (0, 0) hcur]
        simp
        omega) (fun k _ => hfz _)
      rw [hr] at h2
      injection h2 with _ hw
      rw [hw]
      exact World.cell?_setCells_out ga [u] _ w ⟨ga, j, none⟩ (fun _ _ => .inl (by rw [hsize]; show j < 0 + n * 1; omega))
    · obtain ⟨v', w2, h2, _, h3⟩ := run_append_arg_grows (P := P) w t ty e i z 1 bytes ht hi hz hsize hby hzs (by omega) ⟨ga, 0, none⟩ n ca xs hown.1 (fun j x hx => by
        have e1 : (Addr.mk ga 0 none).add j = ⟨ga, 0 + j, none⟩ := Go.WideShapes.add_plain ..
        rw [e1, Nat.zero_add]
        exact hcell j x hx) ad 1 c [u] rfl hnews (by omega) h63 hbytes
      rw [hr] at h2
      injection h2 with _ hw
      rw [hw]
      exact World.cell?_of_block (h3.block ga (heap_lt hcur) (fun e => by cases e))

/-- At a region that draws its order. -/
theorem step_append_kept {ops : Array Oper} {o : Oper} {a : Act} {K : Act → World → Prop} {Q : Exit → Act → World → Prop} {E : Prop} (hgd : o.guard = none) (s x : Operand) {t : TypeId}
    (ho : o.op = .call { callee := .builtin .append, args := #[s, x], argTypes := #[t, t] })
    {base : Nat} {e : TypeId} {i : TypeInfo} {z : Value} {bytes : Nat} (ht : P.underlying t = some (.slice e)) (hi : P.info? e = some i) (hz : i.zero = some z)
    (hsize : i.size = 1) (hby : i.bytes = bytes) (hzs : z.cells.size = 1) {ga n ca : Nat} {xs : List Value} {u : Value} (hs : a.eval s = .slice (some ⟨ga, 0, none⟩) n ca) (hown : w.ownsRow base e 1 (.slice (some ⟨ga, 0, none⟩) n ca) n xs)
    (ad : Addr) (c : Nat) (hx : a.eval x = .slice (some ad) 1 c) (hnews : ∀ j x, [u][j]? = some x → w.cell? (ad.add j) = some x) (h1 : u.oneCell' = true) (h63 : n + 1 ≤ maxLen) (hbytes : (n + 1) * bytes ≤ 140737488355328) (hbase : base ≤ w.heap.size) (H : Nat) (hH : w.heap.size = H)
    (h : ∀ g cap w', w'.ownsRow base e 1 (.slice (some ⟨g, 0, none⟩) (n + 1) cap) (n + 1) (xs ++ [u]) → w.grownBy w' (some ga) → (g = ga ∨ g = H) → g < w'.heap.size → (∀ j, j < n → w'.cell? ⟨ga, j, none⟩ = w.cell? ⟨ga, j, none⟩) → K (a.put o.dst (.slice (some ⟨g, 0, none⟩) (n + 1) cap)) w') :
    if Region.wanted o (yielded ops a.tmps) = true then Oper.wp P o a w K Q else E := by
  have hw : Region.wanted o (yielded ops a.tmps) = true := by simp [Region.wanted, hgd]
  rw [if_pos hw]
  obtain ⟨g, cap, w', hr, h2, h3, h4, h5, h6⟩ := run_append_kept (P := P) o.type ht hi hz hsize hby hzs hown ad c hnews h1 h63 hbytes hbase H hH
  unfold Oper.wp execOp
  simp only [ho, resolve, invoke, builtin, Sem.run_bind, Sem.run_pure, Result.andThen_ok, List.map_toArray, List.map_cons, List.map_nil, hs, hx, hr]
  exact h g cap w' h2 h3 h4 h5 h6
end

end Go.Proofs.Ytngbodmooddjbaa

namespace Go.Proofs.Ytngbodmooddjbaa
open Go.RowKit

/-- The assignment that is the bits of i. -/
def bitsOf (i : Nat) : Nat → Bool := fun v => i.testBit v
/-- The truth table of a function of n variables. -/
def tab (n : Nat) (F : (Nat → Bool) → Bool) : List Bool := (List.range (2 ^ n)).map fun i => F (bitsOf i)

@[simp] theorem tab_length (n : Nat) (F : (Nat → Bool) → Bool) : (tab n F).length = 2 ^ n := by simp [tab]
theorem tab_get {n i : Nat} (F : (Nat → Bool) → Bool) (h : i < 2 ^ n) : (tab n F)[i]? = some (F (bitsOf i)) := by simp [tab, h]

theorem pow_le_64 {n : Nat} (h : n ≤ 6) : 2 ^ n ≤ 64 := by
  have := Nat.pow_le_pow_right (n := 2) (by omega) h
  omega

/-- The row while it is filled: the first k cells are done. -/
def fill (N : Nat) (r : Nat → Bool) (k : Nat) : List Value := (List.range N).map fun i => .bool (if i < k then r i else false)
theorem fill_len (N : Nat) (r : Nat → Bool) (k : Nat) : (fill N r k).length = N := by simp [fill]
theorem fill_set {N k : Nat} (r : Nat → Bool) (h : k < N) : (fill N r k).set k (.bool (r k)) = fill N r (k + 1) := by
  apply List.ext_getElem?
  intro j
  rw [List.getElem?_set]
  by_cases e : k = j
  · subst e
    simp [fill, h]
  · rw [if_neg e]
    simp only [fill, List.getElem?_map]
    by_cases hj : j < N
    · simp only [List.getElem?_range hj, Option.map_some]
      by_cases h1 : j < k
      · rw [if_pos h1, if_pos (by omega)]
      · rw [if_neg h1, if_neg (by omega)]
    · rw [List.getElem?_eq_none (by simp; omega)]; rfl
theorem fill_zero (N : Nat) (r : Nat → Bool) : fill N r 0 = List.replicate N (.bool false) := by
  apply List.ext_getElem?
  intro j
  simp only [fill, List.getElem?_map, List.getElem?_replicate]
  by_cases hj : j < N
  · simp [hj]
  · rw [if_neg hj, List.getElem?_eq_none (by simp; omega)]; rfl
theorem fill_done (n : Nat) (F : (Nat → Bool) → Bool) : fill (2 ^ n) (fun i => F (bitsOf i)) (2 ^ n) = (tab n F).map .bool := by
  apply List.ext_getElem?
  intro j
  simp only [fill, tab, List.getElem?_map]
  by_cases hj : j < 2 ^ n
  · simp [hj]
  · rw [List.getElem?_eq_none (by simp; omega)]; rfl

theorem made_false (n : Nat) : (madeCells (Value.bool false).cells (n * 1)).toList = List.replicate n (.bool false) := by
  apply List.ext_getElem?
  intro j
  simp only [madeCells, Nat.mul_one, Array.getElem?_toList, List.getElem?_replicate]
  by_cases hj : j < n
  · simp [hj, Value.cells, Nat.mod_one]
  · simp [hj]

/-- A store into an owned row, at any base. -/
theorem ownsRow_put {w : World} {base e size n : Nat} {g cap : Nat} {xs : List Value} (h : w.ownsRow base e size (.slice (some ⟨g, 0, none⟩) n cap) n xs) (i : Nat) (v : Value) :
    (w.setCell ⟨g, i, none⟩ v).ownsRow base e size (.slice (some ⟨g, 0, none⟩) n cap) n (xs.set i v) := by
  refine ⟨by rw [List.length_set]; exact h.1, ?_⟩
  rcases h.2 with ⟨hx, _⟩ | ⟨g', cap', cur, hv, hb, hg, h1, h2, h3, h4⟩
  · cases hx
  · cases hv
    exact .inr ⟨g, cap, _, rfl, hb, setCell_heap hg v, h1, h2, by simpa using h3, take_set_row h4 v rfl⟩

/-- A table in memory. -/
def Tb (B : Nat) (w : World) (v : Value) (t : List Bool) : Prop := w.ownsRow B 4 1 v t.length (t.map .bool)

theorem Tb.kp {A : Nat → Prop} {B : Nat} {w w' : World} {v : Value} {t : List Bool} (h : Tb B w v t) (hk : Kp A w w') (hn : ∀ k, v.ownBlock = some k → ¬ A k) : Tb B w' v t := ownsRow_kp h hk hn
theorem Tb.no {B : Nat} {w w' : World} {v : Value} {t : List Bool} (h : Tb B w v t) (hk : Kp No w w') : Tb B w' v t := h.kp hk (fun _ _ x => x)
theorem Tb.mono {B B' : Nat} {w : World} {v : Value} {t : List Bool} (h : Tb B w v t) (hb : B' ≤ B) : Tb B' w v t := by
  refine ⟨h.1, ?_⟩
  rcases h.2 with x | ⟨g, cap, cur, hv, hg, r⟩
  · exact .inl x
  · exact .inr ⟨g, cap, cur, hv, Nat.le_trans hb hg, r⟩
theorem Tb.bools {B : Nat} {w : World} {v : Value} {t : List Bool} (h : Tb B w v t) : Bools w v t := Bools.of_row h

/-- What is known of a table that is not empty. -/
theorem Tb.open {B : Nat} {w : World} {v : Value} {t : List Bool} (h : Tb B w v t) (h0 : 0 < t.length) : ∃ g c, v = .slice (some ⟨g, 0, none⟩) t.length c ∧ t.length ≤ 9223372036854775807 ∧ B ≤ g ∧ g < w.heap.size ∧
    ∀ i b, t[i]? = some b → w.cell? ⟨g, i, none⟩ = some (.bool b) := by
  obtain ⟨g, cap, hv, h1, h2, _, hc, _⟩ := ownsRow_open h h0
  have := maxLen_val
  have hl := h.lt g (by rw [hv]; rfl)
  exact ⟨g, cap, hv, by omega, hl.1, hl.2, fun i b hi => hc i _ (by simp [hi])⟩

/-- What a function of the reference leaves: a new table. -/
def TPost (w : World) (t : List Bool) (e : Ending) (w' : World) : Prop := ∃ v, e = .returned v ∧ Tb w.heap.size w' v t ∧ Kp No w w'

/-- The state while a table is filled. -/
structure FillJ (w : World) (g N : Nat) (r : Nat → Bool) (k : Nat) (wr : World) : Prop where
  row : wr.ownsRow w.heap.size 4 1 (.slice (some ⟨g, 0, none⟩) N N) N (fill N r k)
  kp : Kp No w wr

theorem FillJ.ge {w : World} {g N : Nat} {r : Nat → Bool} {k : Nat} {wr : World} (j : FillJ w g N r k wr) : w.heap.size ≤ g ∧ g < wr.heap.size := j.row.lt g rfl
theorem FillJ.cell {w : World} {g N : Nat} {r : Nat → Bool} {k : Nat} {wr : World} (j : FillJ w g N r k wr) (hk : k < N) : wr.cell? ⟨g, k, none⟩ = some (.bool false) ∧ wr.frozen? ⟨g, k, none⟩ = false := by
  obtain ⟨g', c, hv, _, _, _, hc, hz⟩ := ownsRow_open j.row (by omega)
  cases hv
  exact ⟨hc k _ (by simp [fill, hk]), hz k⟩
theorem FillJ.put {w : World} {g N : Nat} {r : Nat → Bool} {k : Nat} {wr : World} (j : FillJ w g N r k wr) (hk : k < N) : FillJ w g N r (k + 1) (wr.setCell ⟨g, k, none⟩ (.bool (r k))) := by
  refine ⟨?_, ?_⟩
  · have := ownsRow_put j.row k (.bool (r k))
    rw [fill_set r hk] at this
    exact this
  · exact j.kp.trans (A' := fun x => x = g) (fun x e => .inr (by rw [e]; exact j.ge.1)) ((Kp.setCell _ _).mono (fun _ _ e => e))
theorem FillJ.start {w w1 : World} {N : Nat} (r : Nat → Bool) (h : w1.ownsRow w.heap.size 4 1 (.slice (some ⟨w.heap.size, 0, none⟩) N N) N (madeCells (Value.bool false).cells (N * 1)).toList) (hg : w.grownBy w1 none) :
    FillJ w w.heap.size N r 0 w1 := by
  rw [made_false, ← fill_zero N r] at h
  exact ⟨h, (Kp.grown hg).mono (fun k _ e => by cases e)⟩
theorem FillJ.done {w : World} {g n : Nat} {F : (Nat → Bool) → Bool} {wr : World} (j : FillJ w g (2 ^ n) (fun i => F (bitsOf i)) (2 ^ n) wr) : TPost w (tab n F) (.returned (.slice (some ⟨g, 0, none⟩) (2 ^ n) (2 ^ n))) wr := by
  refine ⟨_, rfl, ?_, j.kp⟩
  have := j.row
  rw [fill_done] at this
  unfold Tb
  rw [tab_length]
  exact this

def FillR (w : World) (g N : Nat) (r : Nat → Bool) (gk : Nat) (s : Value) (wr : World) : Prop := ∃ k, k + gk = N ∧ s = .int .i64 (k : Int) ∧ FillJ w g N r k wr

theorem shl_pow {n : Nat} (h : n ≤ 6) : wrap64 ((2 : Int) ^ n) = ((2 ^ n : Nat) : Int) := by
  have := pow_le_64 h
  rw [show ((2 : Int) ^ n) = ((2 ^ n : Nat) : Int) by simp]
  generalize 2 ^ n = m at *
  exact IntWalk.wrap64_in _ ⟨by omega, by omega⟩

theorem setCell_twice (w : World) (g i : Nat) (u v : Value) : (w.setCell ⟨g, i, none⟩ u).setCell ⟨g, i, none⟩ v = w.setCell ⟨g, i, none⟩ v := by
  unfold World.setCell
  simp only [Option.isSome_none, Bool.false_eq_true, if_false]
  congr 1
  apply Array.ext_getElem?
  intro j
  simp only [Array.getElem?_modify]
  split
  · rename_i e
    subst e
    cases w.heap[g]? with
    | none => rfl
    | some o => cases o <;> simp
  · rfl

/-- 'make(Func, N)'. -/
theorem make_tab (w : World) (N : Nat) (hN : N ≤ 64) (r : Nat → Bool) :
    ∃ w1, (Instr.makeSlice 45 (.int .i64 (N : Int)) (.int .i64 (N : Int))).run Try.prog w = .ok (.slice (some ⟨w.heap.size, 0, none⟩) N N) w1 ∧ Hid (FillJ w w.heap.size N r 0 w1) := by
  obtain ⟨j0, hj0, hy0, hy1, hy2⟩ := info_parts info_bool
  obtain ⟨w1, hrun, r1, r2⟩ := run_make_full (P := Try.prog) w w.heap.size 45 4 j0 _ 1 Try.underlying45 hj0 hy0 hy1 .i64 .i64 N (by rw [hy2]; omega) (by rw [maxLen_val]; omega) (Nat.le_refl _)
  exact ⟨w1, hrun, FillJ.start r r1 r2⟩

set_option maxRecDepth 100000 in
set_option maxHeartbeats 1000000 in
theorem Const_ok (n : Nat) (b : Bool) (hn : n ≤ 6) (w : World) : Calls Try.prog 59 #[.int .i64 (n : Int), .bool b] w (TPost w (tab n (fun _ => b))) := by
  have h0 : (0 : Int) ≤ n := by omega
  have h1 : (n : Int) < 64 := by omega
  have hp := shl_pow hn
  have hN := pow_le_64 hn
  have FIN : Hid (∀ wr, FillJ w w.heap.size (2 ^ n) (fun _ => b) (2 ^ n) wr → TPost w (tab n (fun _ => b)) (.returned (.slice (some ⟨w.heap.size, 0, none⟩) (2 ^ n) (2 ^ n))) wr) := Lib.hid (fun wr j => j.done (F := fun _ => b))
  generalize tab n (fun _ => b) = T at *
  generalize 2 ^ n = N at *
  obtain ⟨w1, hmk, J0⟩ := make_tab w N (by omega) (fun _ => b)
  go_enter Try.func59, Try.ntmps59
  go_wp2
  clear hp hmk
  go_loopg [6] N (fun gk s wr => FillR w w.heap.size N (fun _ => b) gk s wr)
  case atStart => exact ⟨0, by omega, rfl, J0.out⟩
  case round =>
    clear J0
    obtain ⟨k, hk, rfl, j⟩ := hrel
    by_cases hlt : k < N
    · obtain ⟨c1, z1⟩ := j.cell hlt
      have JN := Lib.hid (j.put hlt)
      have HK := Lib.hid hk
      have hlti : (k : Int) < N := by omega
      clear j hk
      go_wp2
      go_roundg (N - (k + 1))
      case measure => have := HK.out; omega
      case rel => exact ⟨k + 1, by omega, by go_num, JN.out⟩
    · have hkn : k = N := by omega
      subst hkn
      have J := Lib.hid (FIN.out wr j)
      have hlti : ¬ (k : Int) < k := by omega
      clear j hk hlt
      go_wp2
      go_ret
      exact J.out

theorem bit_fin : ∀ i : Fin 64, ∀ v : Fin 6, (bits BinOp.and IntKind.i64 ((i.val : Int) / 2 ^ v.val) 1 == 1) = i.val.testBit v.val := by decide +kernel
theorem bit_at {i v : Nat} (hi : i < 64) (hv : v < 6) : (bits BinOp.and IntKind.i64 ((i : Int) / 2 ^ v) 1 == 1) = i.testBit v := bit_fin ⟨i, hi⟩ ⟨v, hv⟩

set_option maxRecDepth 100000 in
set_option maxHeartbeats 1000000 in
theorem RVar_ok (n v : Nat) (hn : n ≤ 6) (hv : v < n) (w : World) : Calls Try.prog 60 #[.int .i64 (n : Int), .int .i64 (v : Int)] w (TPost w (tab n (fun a => a v))) := by
  have h0 : (0 : Int) ≤ n := by omega
  have h1 : (n : Int) < 64 := by omega
  have hp := shl_pow hn
  have hN := pow_le_64 hn
  have FIN : Hid (∀ wr, FillJ w w.heap.size (2 ^ n) (fun i => i.testBit v) (2 ^ n) wr → TPost w (tab n (fun a => a v)) (.returned (.slice (some ⟨w.heap.size, 0, none⟩) (2 ^ n) (2 ^ n))) wr) := Lib.hid (fun wr j => j.done (F := fun a => a v))
  generalize tab n (fun a => a v) = T at *
  generalize 2 ^ n = N at *
  obtain ⟨w1, hmk, J0⟩ := make_tab w N (by omega) (fun i => i.testBit v)
  go_enter Try.func60, Try.ntmps60
  go_wp2
  clear hp hmk
  go_loopg [6] N (fun gk s wr => FillR w w.heap.size N (fun i => i.testBit v) gk s wr)
  case atStart => exact ⟨0, by omega, rfl, J0.out⟩
  case round =>
    clear J0
    obtain ⟨k, hk, rfl, j⟩ := hrel
    by_cases hlt : k < N
    · obtain ⟨c1, z1⟩ := j.cell hlt
      have JN := Lib.hid (j.put hlt)
      have HK := Lib.hid hk
      have hlti : (k : Int) < N := by omega
      have hbit := bit_at (i := k) (v := v) (by omega) (by omega)
      clear j hk
      go_wp2
      go_roundg (N - (k + 1))
      case measure => have := HK.out; omega
      case rel => exact ⟨k + 1, by omega, by go_num, JN.out⟩
    · have hkn : k = N := by omega
      subst hkn
      have J := Lib.hid (FIN.out wr j)
      have hlti : ¬ (k : Int) < k := by omega
      clear j hk hlt
      go_wp2
      go_ret
      exact J.out

/-- A cell of a table, in a world in which only new blocks have been written. -/
theorem Tb.cellAt {B : Nat} {w wr : World} {g c : Nat} {n : Nat} {F : (Nat → Bool) → Bool} (h : Tb B w (.slice (some ⟨g, 0, none⟩) (2 ^ n) c) (tab n F)) (kp : Kp No w wr) {i : Nat} (hi : i < 2 ^ n) :
    wr.cell? ⟨g, i, none⟩ = some (.bool (F (bitsOf i))) := by
  obtain ⟨g', c', hv, _, _, _, hc⟩ := (h.no kp).open (by rw [tab_length]; exact Nat.pow_pos (by omega))
  simp only [Value.slice.injEq, Option.some.injEq, Addr.mk.injEq] at hv
  obtain ⟨⟨rfl, _⟩, _⟩ := hv
  exact hc i _ (tab_get F hi)

theorem Tb.form {B : Nat} {w : World} {v : Value} {n : Nat} {F : (Nat → Bool) → Bool} (h : Tb B w v (tab n F)) : ∃ g c, v = .slice (some ⟨g, 0, none⟩) (2 ^ n) c ∧ g < w.heap.size := by
  obtain ⟨g, c, hv, _, _, hl, _⟩ := h.open (by rw [tab_length]; exact Nat.pow_pos (by omega))
  rw [tab_length] at hv
  exact ⟨g, c, hv, hl⟩

set_option maxRecDepth 100000 in
set_option maxHeartbeats 1000000 in
theorem RNot_ok {n : Nat} (hn : n ≤ 6) {B : Nat} {fv : Value} {F : (Nat → Bool) → Bool} {w : World} (hf : Tb B w fv (tab n F)) : Calls Try.prog 61 #[fv] w (TPost w (tab n (fun a => !F a))) := by
  have hN := pow_le_64 hn
  obtain ⟨g, c, rfl, hgl⟩ := hf.form
  have FIN : Hid (∀ wr, FillJ w w.heap.size (2 ^ n) (fun i => !F (bitsOf i)) (2 ^ n) wr → TPost w (tab n (fun a => !F a)) (.returned (.slice (some ⟨w.heap.size, 0, none⟩) (2 ^ n) (2 ^ n))) wr) := Lib.hid (fun wr j => j.done (F := fun a => !F a))
  have CELL : Hid (∀ wr, Kp No w wr → ∀ i, i < 2 ^ n → wr.cell? ⟨g, i, none⟩ = some (.bool (F (bitsOf i)))) := Lib.hid (fun wr kp i hi => hf.cellAt kp hi)
  clear hf
  generalize tab n (fun a => !F a) = T at *
  generalize 2 ^ n = N at *
  obtain ⟨w1, hmk, J0⟩ := make_tab w N (by omega) (fun i => !F (bitsOf i))
  go_enter Try.func61, Try.ntmps61
  go_wp2
  clear hmk
  go_loopg [4] N (fun gk s wr => FillR w w.heap.size N (fun i => !F (bitsOf i)) gk s wr)
  case atStart => exact ⟨0, by omega, rfl, J0.out⟩
  case round =>
    clear J0
    obtain ⟨k, hk, rfl, j⟩ := hrel
    by_cases hlt : k < N
    · obtain ⟨c1, z1⟩ := j.cell hlt
      have f1 := CELL.out wr j.kp k hlt
      have JN := Lib.hid (j.put hlt)
      have HK := Lib.hid hk
      have hlti : (k : Int) < N := by omega
      clear j hk
      generalize F (bitsOf k) = fb at *
      go_wp2
      go_roundg (N - (k + 1))
      case measure => have := HK.out; omega
      case rel => exact ⟨k + 1, by omega, by go_num, JN.out⟩
    · have hkn : k = N := by omega
      subst hkn
      have J := Lib.hid (FIN.out wr j)
      have hlti : ¬ (k : Int) < k := by omega
      clear j hk hlt
      go_wp2
      go_ret
      exact J.out

set_option maxRecDepth 100000 in
set_option maxHeartbeats 1000000 in
theorem RIte_ok {n : Nat} (hn : n ≤ 6) {B1 B2 B3 : Nat} {fv gv hv : Value} {F G H : (Nat → Bool) → Bool} {w : World} (hf : Tb B1 w fv (tab n F)) (hg : Tb B2 w gv (tab n G)) (hh : Tb B3 w hv (tab n H)) :
    Calls Try.prog 66 #[fv, gv, hv] w (TPost w (tab n (fun a => if F a then G a else H a))) := by
  have hN := pow_le_64 hn
  obtain ⟨g1, c1, rfl, l1⟩ := hf.form
  obtain ⟨g2, c2, rfl, l2⟩ := hg.form
  obtain ⟨g3, c3, rfl, l3⟩ := hh.form
  have FIN : Hid (∀ wr, FillJ w w.heap.size (2 ^ n) (fun i => if F (bitsOf i) then G (bitsOf i) else H (bitsOf i)) (2 ^ n) wr → TPost w (tab n (fun a => if F a then G a else H a)) (.returned (.slice (some ⟨w.heap.size, 0, none⟩) (2 ^ n) (2 ^ n))) wr) :=
    Lib.hid (fun wr j => j.done (F := fun a => if F a then G a else H a))
  have C1 : Hid (∀ wr, Kp No w wr → ∀ i, i < 2 ^ n → wr.cell? ⟨g1, i, none⟩ = some (.bool (F (bitsOf i)))) := Lib.hid (fun wr kp i hi => hf.cellAt kp hi)
  have C2 : Hid (∀ wr, Kp No w wr → ∀ i, i < 2 ^ n → wr.cell? ⟨g2, i, none⟩ = some (.bool (G (bitsOf i)))) := Lib.hid (fun wr kp i hi => hg.cellAt kp hi)
  have C3 : Hid (∀ wr, Kp No w wr → ∀ i, i < 2 ^ n → wr.cell? ⟨g3, i, none⟩ = some (.bool (H (bitsOf i)))) := Lib.hid (fun wr kp i hi => hh.cellAt kp hi)
  clear hf hg hh
  generalize tab n (fun a => if F a then G a else H a) = T at *
  generalize 2 ^ n = N at *
  obtain ⟨w1, hmk, J0⟩ := make_tab w N (by omega) (fun i => if F (bitsOf i) then G (bitsOf i) else H (bitsOf i))
  go_enter Try.func66, Try.ntmps66
  go_wp2
  clear hmk
  go_loopg [8] N (fun gk s wr => FillR w w.heap.size N (fun i => if F (bitsOf i) then G (bitsOf i) else H (bitsOf i)) gk s wr)
  case atStart => exact ⟨0, by omega, rfl, J0.out⟩
  case round =>
    clear J0
    obtain ⟨k, hk, rfl, j⟩ := hrel
    by_cases hlt : k < N
    · obtain ⟨q1, z1⟩ := j.cell hlt
      have f1 := C1.out wr j.kp k hlt
      have f2 := C2.out wr j.kp k hlt
      have f3 := C3.out wr j.kp k hlt
      have JN := Lib.hid (j.put hlt)
      have HK := Lib.hid hk
      have hlti : (k : Int) < N := by omega
      have hne1 : w.heap.size ≠ g1 := by omega
      have hne2 : w.heap.size ≠ g2 := by omega
      have hne3 : w.heap.size ≠ g3 := by omega
      clear j hk
      generalize G (bitsOf k) = gb at *
      generalize H (bitsOf k) = hb at *
      have key : Hid (∀ b : Bool, (wr.setCell ⟨w.heap.size, k, none⟩ (.bool hb)).setCell ⟨w.heap.size, k, none⟩ (.bool gb) = wr.setCell ⟨w.heap.size, k, none⟩ (.bool gb)) := Lib.hid (fun _ => setCell_twice wr w.heap.size k _ _)
      cases hfb : F (bitsOf k) with
      | true =>
        rw [hfb] at f1
        simp only [hfb, if_true] at JN
        clear hfb
        go_wp2
        go_roundg (N - (k + 1))
        case measure => have := HK.out; omega
        case rel => exact ⟨k + 1, by omega, by go_num, by rw [key.out true]; exact JN.out⟩
      | false =>
        rw [hfb] at f1
        simp only [hfb, Bool.false_eq_true, if_false] at JN
        clear hfb
        go_wp2
        go_roundg (N - (k + 1))
        case measure => have := HK.out; omega
        case rel => exact ⟨k + 1, by omega, by go_num, JN.out⟩
    · have hkn : k = N := by omega
      subst hkn
      have J := Lib.hid (FIN.out wr j)
      have hlti : ¬ (k : Int) < k := by omega
      clear j hk hlt
      go_wp2
      go_ret
      exact J.out

set_option maxHeartbeats 400000 in
theorem RAnd_ok {n : Nat} (hn : n ≤ 6) {B1 B2 : Nat} {fv gv : Value} {F G : (Nat → Bool) → Bool} {w : World} (hf : Tb B1 w fv (tab n F)) (hg : Tb B2 w gv (tab n G)) :
    Calls Try.prog 62 #[fv, gv] w (TPost w (tab n (fun a => F a && G a))) := by
  have HC := Lib.hid (RIte_ok hn hf hg hf)
  have E : Hid ((fun a => if F a then G a else F a) = fun a => F a && G a) := Lib.hid (by funext a; cases F a <;> simp)
  clear hf hg
  go_enter Try.func62, Try.ntmps62
  go_wp2_with fail
  refine HC.out.mono ?_
  rintro e w1 ⟨v, rfl, h1, h2⟩
  rw [E.out] at h1
  have P : Hid (TPost w (tab n (fun a => F a && G a)) (.returned v) w1) := ⟨v, rfl, h1, h2⟩
  clear h1 h2
  go_wp2_with fail
  go_ret
  exact P.out

set_option maxHeartbeats 400000 in
theorem ROr_ok {n : Nat} (hn : n ≤ 6) {B1 B2 : Nat} {fv gv : Value} {F G : (Nat → Bool) → Bool} {w : World} (hf : Tb B1 w fv (tab n F)) (hg : Tb B2 w gv (tab n G)) :
    Calls Try.prog 63 #[fv, gv] w (TPost w (tab n (fun a => F a || G a))) := by
  have HC := Lib.hid (RIte_ok hn hf hf hg)
  have E : Hid ((fun a => if F a then F a else G a) = fun a => F a || G a) := Lib.hid (by funext a; cases F a <;> simp)
  clear hf hg
  go_enter Try.func63, Try.ntmps63
  go_wp2_with fail
  refine HC.out.mono ?_
  rintro e w1 ⟨v, rfl, h1, h2⟩
  rw [E.out] at h1
  have P : Hid (TPost w (tab n (fun a => F a || G a)) (.returned v) w1) := ⟨v, rfl, h1, h2⟩
  clear h1 h2
  go_wp2_with fail
  go_ret
  exact P.out

set_option maxHeartbeats 400000 in
theorem RXor_ok {n : Nat} (hn : n ≤ 6) {B1 B2 : Nat} {fv gv : Value} {F G : (Nat → Bool) → Bool} {w : World} (hf : Tb B1 w fv (tab n F)) (hg : Tb B2 w gv (tab n G)) :
    Calls Try.prog 65 #[fv, gv] w (TPost w (tab n (fun a => F a ^^ G a))) := by
  have HC := Lib.hid (RNot_ok hn hg)
  have HD : Hid (∀ (w1 : World) (v : Value), Kp No w w1 → Tb w.heap.size w1 v (tab n (fun a => !G a)) → Calls Try.prog 66 #[fv, v, gv] w1 (TPost w1 (tab n (fun a => if F a then !G a else G a)))) :=
    Lib.hid (fun w1 v k h => RIte_ok hn (hf.no k) h (hg.no k))
  have E : Hid ((fun a => if F a then !G a else G a) = fun a => F a ^^ G a) := Lib.hid (by funext a; cases F a <;> cases G a <;> rfl)
  clear hf hg
  go_enter Try.func65, Try.ntmps65
  go_wp2_with fail
  refine HC.out.mono ?_
  rintro e w1 ⟨v, rfl, h1, h2⟩
  have HD2 := Lib.hid (HD.out w1 v h2 h1)
  have K2 := Lib.hid h2
  clear h1 h2
  go_wp2_with fail
  refine HD2.out.mono ?_
  rintro e w2 ⟨u, rfl, h3, h4⟩
  rw [E.out] at h3
  have P : Hid (TPost w (tab n (fun a => F a ^^ G a)) (.returned u) w2) := ⟨u, rfl, h3.mono K2.out.size, K2.out.trans_no h4⟩
  clear h3 h4
  go_wp2_with fail
  go_ret
  exact P.out

/-! ### Restrict -/
def clr (i v : Nat) : Nat := if i.testBit v then i - 2 ^ v else i
def sbt (i v : Nat) : Nat := if i.testBit v then i else i + 2 ^ v
theorem clr_fin : ∀ i : Fin 64, ∀ v : Fin 6, bits BinOp.andNot IntKind.i64 (i.val : Int) ((2 : Int) ^ v.val) = (clr i.val v.val : Int) ∧ bits BinOp.or IntKind.i64 (i.val : Int) ((2 : Int) ^ v.val) = (sbt i.val v.val : Int) := by decide +kernel
theorem clr_bit : ∀ i : Fin 64, ∀ v u : Fin 6, (clr i.val v.val).testBit u.val = (if u.val = v.val then false else i.val.testBit u.val) ∧ (sbt i.val v.val).testBit u.val = (if u.val = v.val then true else i.val.testBit u.val) := by decide +kernel
theorem clr_lt : ∀ n : Fin 7, ∀ i : Fin 64, ∀ v : Fin 6, v.val < n.val → i.val < 2 ^ n.val → clr i.val v.val < 2 ^ n.val ∧ sbt i.val v.val < 2 ^ n.val := by decide +kernel

/-- The index with one bit set or cleared. -/
def fixb (i v : Nat) (b : Bool) : Nat := if b then sbt i v else clr i v
theorem fix_lt {n i v : Nat} (hn : n ≤ 6) (hv : v < n) (hi : i < 2 ^ n) (b : Bool) : fixb i v b < 2 ^ n := by
  have := pow_le_64 hn
  have h := clr_lt ⟨n, by omega⟩ ⟨i, by omega⟩ ⟨v, by omega⟩ hv hi
  unfold fixb; cases b
  · exact h.1
  · exact h.2
theorem fix_bits {n i v : Nat} (hn : n ≤ 6) (hv : v < n) (hi : i < 2 ^ n) (b : Bool) (u : Nat) (hu : u < n) : bitsOf (fixb i v b) u = Mgr.upd (bitsOf i) v b u := by
  have := pow_le_64 hn
  have h := clr_bit ⟨i, by omega⟩ ⟨v, by omega⟩ ⟨u, by omega⟩
  unfold fixb bitsOf Mgr.upd
  cases b
  · exact h.1
  · exact h.2

/-- F reads the first n variables alone. -/
def Upto (n : Nat) (F : (Nat → Bool) → Bool) : Prop := ∀ a b : Nat → Bool, (∀ v, v < n → a v = b v) → F a = F b

set_option maxRecDepth 100000 in
set_option maxHeartbeats 1000000 in
theorem RRestrict_ok {n v : Nat} (hn : n ≤ 6) (hv : v < n) (b : Bool) {B : Nat} {fv : Value} {F : (Nat → Bool) → Bool} {w : World} (hF : Upto n F) (hf : Tb B w fv (tab n F)) :
    Calls Try.prog 68 #[fv, .int .i64 (v : Int), .bool b] w (TPost w (tab n (fun a => F (Mgr.upd a v b)))) := by
  have hN := pow_le_64 hn
  obtain ⟨g, c, rfl, hgl⟩ := hf.form
  have FIN : Hid (∀ wr, FillJ w w.heap.size (2 ^ n) (fun i => F (Mgr.upd (bitsOf i) v b)) (2 ^ n) wr → TPost w (tab n (fun a => F (Mgr.upd a v b))) (.returned (.slice (some ⟨w.heap.size, 0, none⟩) (2 ^ n) (2 ^ n))) wr) := Lib.hid (fun wr j => j.done (F := fun a => F (Mgr.upd a v b)))
  have CELL : Hid (∀ wr, Kp No w wr → ∀ i, i < 2 ^ n → fixb i v b < 2 ^ n ∧ wr.cell? ⟨g, fixb i v b, none⟩ = some (.bool (F (Mgr.upd (bitsOf i) v b)))) := Lib.hid (fun wr kp i hi => by
    have h1 := fix_lt hn hv hi b
    refine ⟨h1, ?_⟩
    rw [hf.cellAt kp h1, hF _ _ (fun u hu => fix_bits hn hv hi b u hu)])
  have h0 : (0 : Int) ≤ v := by omega
  have h1 : (v : Int) < 64 := by omega
  have hp := shl_pow (n := v) (by omega)
  have hv6 : v < 6 := by omega
  clear hf hF
  generalize tab n (fun a => F (Mgr.upd a v b)) = T at *
  generalize 2 ^ n = N at *
  obtain ⟨w1, hmk, J0⟩ := make_tab w N (by omega) (fun i => F (Mgr.upd (bitsOf i) v b))
  go_enter Try.func68, Try.ntmps68
  go_wp2
  clear hmk
  go_loopg [8] N (fun gk s wr => FillR w w.heap.size N (fun i => F (Mgr.upd (bitsOf i) v b)) gk s wr)
  case atStart => exact ⟨0, by omega, rfl, J0.out⟩
  case round =>
    clear J0
    obtain ⟨k, hk, rfl, j⟩ := hrel
    by_cases hlt : k < N
    · obtain ⟨c1, z1⟩ := j.cell hlt
      obtain ⟨flt, f1⟩ := CELL.out wr j.kp k hlt
      have JN := Lib.hid (j.put hlt)
      have HK := Lib.hid hk
      have hlti : (k : Int) < N := by omega
      obtain ⟨ha, ho⟩ := clr_fin ⟨k, by omega⟩ ⟨v, by omega⟩
      simp only at ha ho
      clear j hk
      generalize F (Mgr.upd (bitsOf k) v b) = fb at *
      cases b with
      | false =>
        have e : fixb k v false = clr k v := rfl
        rw [e] at flt f1
        have flti : (clr k v : Int) < N := by omega
        generalize clr k v = x at *
        go_wp2
        go_roundg (N - (k + 1))
        case measure => have := HK.out; omega
        case rel => exact ⟨k + 1, by omega, by go_num, JN.out⟩
      | true =>
        have e : fixb k v true = sbt k v := rfl
        rw [e] at flt f1
        have flti : (sbt k v : Int) < N := by omega
        generalize sbt k v = x at *
        go_wp2
        go_roundg (N - (k + 1))
        case measure => have := HK.out; omega
        case rel => exact ⟨k + 1, by omega, by go_num, JN.out⟩
    · have hkn : k = N := by omega
      subst hkn
      have J := Lib.hid (FIN.out wr j)
      have hlti : ¬ (k : Int) < k := by omega
      clear j hk hlt
      go_wp2
      go_ret
      exact J.out

end Go.Proofs.Ytngbodmooddjbaa
