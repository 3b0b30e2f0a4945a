/-
  append of a slice that is nil, empty or not, to a row of the call's own.
-/
import Derived.Test.YtgglkldoclejaaaDoorW10
import Derived.Maps.AppendAt
import Derived.RegionTactic
import Derived.OwnWalk
import Derived.ArgAppend
namespace Go.Proofs.YtgglkldoclejaaaDoor
open Go.RowKit

/-- A slice that reads as n elements, the cells xs. -/
def SrcAt (w : World) (v : Value) (size n : Nat) (xs : List Value) : Prop :=
  ∃ ao c, v = .slice ao n c ∧ xs.length = n * size ∧ (n = 0 ∨ ∃ g o, ao = some ⟨g, o, none⟩ ∧ g < w.heap.size ∧ ∀ j u, xs[j]? = some u → w.cell? ⟨g, o + j, none⟩ = some u)

theorem SrcAt.kp {A : Nat → Prop} {w w' : World} {v : Value} {size n : Nat} {xs : List Value} (h : SrcAt w v size n xs) (k : Kp A w w') (hA : n ≠ 0 → ∀ g o m c, v = .slice (some ⟨g, o, none⟩) m c → ¬ A g) : SrcAt w' v size n xs := by
  obtain ⟨ao, c, hv, hl, h⟩ := h
  refine ⟨ao, c, hv, hl, ?_⟩
  rcases h with h | ⟨g, o, rfl, hg, h⟩
  · exact .inl h
  · by_cases hn : n = 0
    · exact .inl hn
    exact .inr ⟨g, o, rfl, Nat.lt_of_lt_of_le hg k.size, fun j u hu => by rw [k.cell hg (hA hn g o _ _ hv)]; exact h j u hu⟩
theorem SrcAt.no {w w' : World} {v : Value} {size n : Nat} {xs : List Value} (h : SrcAt w v size n xs) (k : Kp No w w') : SrcAt w' v size n xs := h.kp k (fun _ _ _ _ _ _ x => x)

theorem SrcAt.of_bools {w : World} {v : Value} {l : List Bool} (h : Bools w v l) : SrcAt w v 1 l.length (l.map .bool) := by
  obtain ⟨ao, c, hv, hl, h⟩ := h
  refine ⟨ao, c, hv, by simp, ?_⟩
  rcases h with h | ⟨g, o, rfl, h⟩
  · exact .inl (by simp [h])
  · by_cases h0 : l = []
    · exact .inl (by simp [h0])
    have hlt : 0 < l.length := List.length_pos_iff.2 h0
    refine .inr ⟨g, o, rfl, ?_, fun j u hu => ?_⟩
    · exact World.block_lt_of_cell? _ _ (h 0 (l[0]) (by simp))
    · rw [List.getElem?_map] at hu
      obtain ⟨b, hb, rfl⟩ := Option.map_eq_some_iff.1 hu
      exact h j b hb

theorem SrcAt.of_row {w : World} {base e size n : Nat} {v : Value} {xs : List Value} (h : w.ownsRow base e size v n xs) : SrcAt w v size n xs := by
  rcases h.2 with ⟨rfl, h0⟩ | ⟨g, cap, cur, rfl, hb, hg, h1, h2, h3, h4⟩
  · exact ⟨none, 0, by rw [h0], h.1, .inl h0⟩
  · refine ⟨_, _, rfl, h.1, ?_⟩
    rcases Nat.eq_zero_or_pos n with h0 | h0
    · exact .inl h0
    · obtain ⟨g', cap', hv, _, _, _, hc, _⟩ := ownsRow_open h h0
      cases hv
      exact .inr ⟨g, 0, rfl, heap_lt hg, fun j u hu => by rw [Nat.zero_add]; exact hc j u hu⟩

section
variable {P : Program} {w : World}

theorem run_append_src {t e : TypeId} (ty : TypeId) {base : Nat} {i : TypeInfo} {z : Value} {size bytes : Nat} (ht : P.underlying t = some (.slice e)) (hi : P.info? e = some i) (hz : i.zero = some z)
    (hsize : i.size = size) (hby : i.bytes = bytes) (hzs : z.cells.size = size) (hsz : 0 < size) {v u : Value} {n m : Nat} {xs news : List Value} (hown : w.ownsRow base e size v n xs) (hsrc : SrcAt w u size m news)
    (h1 : ∀ x ∈ news, x.oneCell' = true) (h63 : n + m ≤ maxLen) (hbytes : (n + m) * bytes ≤ 140737488355328) (hbase : base ≤ w.heap.size) :
    ∃ v' w', (Builtin.append_ #[t, t] ty #[v, u]).run P w = .ok v' w' ∧ w'.ownsRow base e size v' (n + m) (xs ++ news) ∧ w.grownBy w' v.ownBlock ∧ (v'.ownBlock = v.ownBlock ∨ v'.ownBlock = some w.heap.size) := by
  obtain ⟨ao, c, rfl, hl, hc⟩ := hsrc
  cases ao with
  | none =>
    have hm : m = 0 := by
      rcases hc with hc | ⟨g, o, hx, _⟩
      · exact hc
      · cases hx
    subst hm
    have hnil : news = [] := List.eq_nil_of_length_eq_zero (by simpa using hl)
    subst hnil
    refine ⟨v, w, ?_, by simpa using hown, World.grownBy.refl w _, .inl rfl⟩
    rcases hown.2 with ⟨rfl, rfl⟩ | ⟨g, cap, cur, rfl, _, _, hnc, _⟩
    · simp [Builtin.append_, run_underlying ht, sizeOf, typeInfo, hi, Builtin.lenOf, Builtin.firstCells]
    · simp [Builtin.append_, run_underlying ht, sizeOf, typeInfo, hi, Builtin.lenOf, Builtin.firstCells, hnc, storeCells]
  | some ad =>
    have hcells : ∀ j x, news[j]? = some x → w.cell? (ad.add j) = some x := by
      intro j x hx
      rcases hc with hc | ⟨g, o, he, _, hcc⟩
      · subst hc
        have hnil : news = [] := List.eq_nil_of_length_eq_zero (by simpa using hl)
        subst hnil
        simp at hx
      · cases he
        have e1 : (Addr.mk g o none).add j = ⟨g, o + j, none⟩ := Go.WideShapes.add_plain ..
        rw [e1]
        exact hcc j x hx
    obtain ⟨v', w', hr, h2, h3, _, h5⟩ := run_append_own_at (P := P) w base t ty e i z size bytes ht hi hz hsize hby hzs hsz v n xs hown ad m c news hl hcells h1 h63 hbytes hbase
    exact ⟨v', w', hr, h2, h3, h5⟩

theorem wp_append_src {o : Oper} {a : Act} {K : Act → World → Prop} {Q : Exit → Act → World → Prop} {s x : Operand} {t : TypeId}
    (ho : o.op = .call { callee := .builtin .append, args := #[s, x], argTypes := #[t, t] })
    {base : Nat} {e : TypeId} {i : TypeInfo} {z : Value} {size bytes : Nat} (ht : P.underlying t = some (.slice e)) (hi : P.info? e = some i) (hz : i.zero = some z)
    (hsize : i.size = size) (hby : i.bytes = bytes) (hzs : z.cells.size = size) (hsz : 0 < size) {v u : Value} {n m : Nat} {xs news : List Value} (hs : a.eval s = v) (hown : w.ownsRow base e size v n xs) (hx : a.eval x = u) (hsrc : SrcAt w u size m news)
    (h1 : ∀ x ∈ news, x.oneCell' = true) (h63 : n + m ≤ maxLen) (hbytes : (n + m) * bytes ≤ 140737488355328) (hbase : base ≤ w.heap.size)
    (h : ∀ v' w', w'.ownsRow base e size v' (n + m) (xs ++ news) → w.grownBy w' v.ownBlock → (v'.ownBlock = v.ownBlock ∨ v'.ownBlock = some w.heap.size) → K (a.put o.dst v') w') : o.wp P a w K Q := by
  obtain ⟨v', w', hr, h2, h3, h4⟩ := run_append_src (P := P) o.type ht hi hz hsize hby hzs hsz hown hsrc h1 h63 hbytes hbase
  unfold Oper.wp execOp
  simp only [ho, resolve, invoke, builtin, Sem.run_bind, Sem.run_pure, Result.andThen_ok, List.map_toArray, List.map_cons, List.map_nil, hs, hx, hr]
  exact h v' w' h2 h3 h4

/-- At a plain region. -/
theorem wpList_append_src {ops : Array Oper} {rest : List Oper} {o : Oper} {a : Act} {Q : Exit → Act → World → Prop} (hgd : o.guard = none) (s x : Operand) {t : TypeId}
    (ho : o.op = .call { callee := .builtin .append, args := #[s, x], argTypes := #[t, t] })
    {base : Nat} {e : TypeId} {i : TypeInfo} {z : Value} {size bytes : Nat} (ht : P.underlying t = some (.slice e)) (hi : P.info? e = some i) (hz : i.zero = some z)
    (hsize : i.size = size) (hby : i.bytes = bytes) (hzs : z.cells.size = size) (hsz : 0 < size) {v u : Value} {n m : Nat} {xs news : List Value} (hs : a.eval s = v) (hown : w.ownsRow base e size v n xs) (hx : a.eval x = u) (hsrc : SrcAt w u size m news)
    (h1 : ∀ x ∈ news, x.oneCell' = true) (h63 : n + m ≤ maxLen) (hbytes : (n + m) * bytes ≤ 140737488355328) (hbase : base ≤ w.heap.size)
    (h : ∀ v' w', w'.ownsRow base e size v' (n + m) (xs ++ news) → w.grownBy w' v.ownBlock → (v'.ownBlock = v.ownBlock ∨ v'.ownBlock = some w.heap.size) → wpList P ops Q rest (a.put o.dst v') w') : wpList P ops Q (o :: rest) a w :=
  wpList_plain hgd fun _ hK => wp_append_src ho ht hi hz hsize hby hzs hsz hs hown hx hsrc h1 h63 hbytes hbase fun v' w' h2 h3 h4 => hK _ _ (h v' w' h2 h3 h4)

/-- At a region that draws its order. -/
theorem step_append_src {ops : Array Oper} {o : Oper} {a : Act} {K : Act → World → Prop} {Q : Exit → Act → World → Prop} {E : Prop} (hgd : o.guard = none) (s x : Operand) {t : TypeId}
    (ho : o.op = .call { callee := .builtin .append, args := #[s, x], argTypes := #[t, t] })
    {base : Nat} {e : TypeId} {i : TypeInfo} {z : Value} {size bytes : Nat} (ht : P.underlying t = some (.slice e)) (hi : P.info? e = some i) (hz : i.zero = some z)
    (hsize : i.size = size) (hby : i.bytes = bytes) (hzs : z.cells.size = size) (hsz : 0 < size) {v u : Value} {n m : Nat} {xs news : List Value} (hs : a.eval s = v) (hown : w.ownsRow base e size v n xs) (hx : a.eval x = u) (hsrc : SrcAt w u size m news)
    (h1 : ∀ x ∈ news, x.oneCell' = true) (h63 : n + m ≤ maxLen) (hbytes : (n + m) * bytes ≤ 140737488355328) (hbase : base ≤ w.heap.size)
    (h : ∀ v' w', w'.ownsRow base e size v' (n + m) (xs ++ news) → w.grownBy w' v.ownBlock → (v'.ownBlock = v.ownBlock ∨ v'.ownBlock = some w.heap.size) → K (a.put o.dst v') w') :
    if Region.wanted o (yielded ops a.tmps) = true then Oper.wp P o a w K Q else E := by
  have hw : Region.wanted o (yielded ops a.tmps) = true := by simp [Region.wanted, hgd]
  rw [if_pos hw]
  exact wp_append_src ho ht hi hz hsize hby hzs hsz hs hown hx hsrc h1 h63 hbytes hbase h
end

section
variable {P : Program} {w : World}
/-- append of one element: what the old row held is there behind it. -/
theorem run_append_kept {t e : TypeId} (ty : TypeId) {base : Nat} {i : TypeInfo} {z : Value} {bytes : Nat} (ht : P.underlying t = some (.slice e)) (hi : P.info? e = some i) (hz : i.zero = some z)
    (hsize : i.size = 1) (hby : i.bytes = bytes) (hzs : z.cells.size = 1) {ga n ca : Nat} {xs : List Value} {u : Value} (hown : w.ownsRow base e 1 (.slice (some ⟨ga, 0, none⟩) n ca) n xs)
    (ad : Addr) (c : Nat) (hnews : ∀ j x, [u][j]? = some x → w.cell? (ad.add j) = some x) (h1 : u.oneCell' = true) (h63 : n + 1 ≤ maxLen) (hbytes : (n + 1) * bytes ≤ 140737488355328) (hbase : base ≤ w.heap.size) (H : Nat) (hH : w.heap.size = H) :
    ∃ g cap w', (Builtin.append_ #[t, t] ty #[.slice (some ⟨ga, 0, none⟩) n ca, .slice (some ad) 1 c]).run P w = .ok (.slice (some ⟨g, 0, none⟩) (n + 1) cap) w' ∧ w'.ownsRow base e 1 (.slice (some ⟨g, 0, none⟩) (n + 1) cap) (n + 1) (xs ++ [u]) ∧ w.grownBy w' (some ga) ∧ (g = ga ∨ g = H) ∧ g < w'.heap.size ∧
      ∀ j, j < n → w'.cell? ⟨ga, j, none⟩ = w.cell? ⟨ga, j, none⟩ := by
  have h1' : ∀ x ∈ [u], x.oneCell' = true := by intro x hx; simp at hx; rw [hx]; exact h1
  obtain ⟨g, cap, w', hr, r1, r2, r3, r4⟩ := run_append_lies (P := P) w t ty base e i z 1 bytes ht hi hz hsize hby hzs (by omega) (.slice (some ⟨ga, 0, none⟩) n ca) n xs hown ad 1 c [u] rfl hnews h1' (by omega) h63 hbytes hbase H hH
  refine ⟨g, cap, w', hr, r1, r2, ?_, r4, fun j hj => ?_⟩
  · rcases r3 with h | h
    · exact .inl (by simpa [Value.ownBlock] using h.symm)
    · exact .inr h
  · obtain ⟨g', cap', hv, _, _, ⟨cur, hcur, hcs, htake⟩, hcell, hfz⟩ := ownsRow_open hown (by omega)
    cases hv
    by_cases hroom : n + 1 ≤ ca
    · have h2 := run_append_room_cells (P := P) w t ty e i ht hi ga 0 n ca ad 1 c [u] (by rw [hsize]; rfl) hnews h1' hroom (fun k hk => by
        have hk0 : k = 0 := by simpa using hk
        subst hk0
        rw [hsize, cell_of_row w ga _ cur e (0, 0) hcur]
        simp
        omega) (fun k _ => hfz _)
      rw [hr] at h2
      injection h2 with _ hw
      rw [hw]
      exact World.cell?_setCells_out ga [u] _ w ⟨ga, j, none⟩ (fun _ _ => .inl (by rw [hsize]; show j < 0 + n * 1; omega))
    · obtain ⟨v', w2, h2, _, h3⟩ := run_append_arg_grows (P := P) w t ty e i z 1 bytes ht hi hz hsize hby hzs (by omega) ⟨ga, 0, none⟩ n ca xs hown.1 (fun j x hx => by
        have e1 : (Addr.mk ga 0 none).add j = ⟨ga, 0 + j, none⟩ := Go.WideShapes.add_plain ..
        rw [e1, Nat.zero_add]
        exact hcell j x hx) ad 1 c [u] rfl hnews (by omega) h63 hbytes
      rw [hr] at h2
      injection h2 with _ hw
      rw [hw]
      exact World.cell?_of_block (h3.block ga (heap_lt hcur) (fun e => by cases e))

/-- At a region that draws its order. -/
theorem step_append_kept {ops : Array Oper} {o : Oper} {a : Act} {K : Act → World → Prop} {Q : Exit → Act → World → Prop} {E : Prop} (hgd : o.guard = none) (s x : Operand) {t : TypeId}
    (ho : o.op = .call { callee := .builtin .append, args := #[s, x], argTypes := #[t, t] })
    {base : Nat} {e : TypeId} {i : TypeInfo} {z : Value} {bytes : Nat} (ht : P.underlying t = some (.slice e)) (hi : P.info? e = some i) (hz : i.zero = some z)
    (hsize : i.size = 1) (hby : i.bytes = bytes) (hzs : z.cells.size = 1) {ga n ca : Nat} {xs : List Value} {u : Value} (hs : a.eval s = .slice (some ⟨ga, 0, none⟩) n ca) (hown : w.ownsRow base e 1 (.slice (some ⟨ga, 0, none⟩) n ca) n xs)
    (ad : Addr) (c : Nat) (hx : a.eval x = .slice (some ad) 1 c) (hnews : ∀ j x, [u][j]? = some x → w.cell? (ad.add j) = some x) (h1 : u.oneCell' = true) (h63 : n + 1 ≤ maxLen) (hbytes : (n + 1) * bytes ≤ 140737488355328) (hbase : base ≤ w.heap.size) (H : Nat) (hH : w.heap.size = H)
    (h : ∀ g cap w', w'.ownsRow base e 1 (.slice (some ⟨g, 0, none⟩) (n + 1) cap) (n + 1) (xs ++ [u]) → w.grownBy w' (some ga) → (g = ga ∨ g = H) → g < w'.heap.size → (∀ j, j < n → w'.cell? ⟨ga, j, none⟩ = w.cell? ⟨ga, j, none⟩) → K (a.put o.dst (.slice (some ⟨g, 0, none⟩) (n + 1) cap)) w') :
    if Region.wanted o (yielded ops a.tmps) = true then Oper.wp P o a w K Q else E := by
  have hw : Region.wanted o (yielded ops a.tmps) = true := by simp [Region.wanted, hgd]
  rw [if_pos hw]
  obtain ⟨g, cap, w', hr, h2, h3, h4, h5, h6⟩ := run_append_kept (P := P) o.type ht hi hz hsize hby hzs hown ad c hnews h1 h63 hbytes hbase H hH
  unfold Oper.wp execOp
  simp only [ho, resolve, invoke, builtin, Sem.run_bind, Sem.run_pure, Result.andThen_ok, List.map_toArray, List.map_cons, List.map_nil, hs, hx, hr]
  exact h g cap w' h2 h3 h4 h5 h6
end

end Go.Proofs.YtgglkldoclejaaaDoor
