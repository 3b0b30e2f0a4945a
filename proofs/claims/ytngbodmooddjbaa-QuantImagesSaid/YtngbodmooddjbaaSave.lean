/-
  Walks: 'Save' of the package bdd.
-/
import Derived.Test.YtngbodmooddjbaaTab
import Derived.Test.YtngbodmooddjbaaBdd
namespace Go.Proofs.Ytngbodmooddjbaa
open Go.RowKit

/-- The last place of g in a list that is laid down backwards. -/
def lookR : List Nat → Nat → Option Nat
  | [], _ => none
  | f :: R, g => if g = f then some R.length else lookR R g

/-- The index of g among the nodes V: what the map 'index' holds. -/
def idxF (V : List Nat) : Int → Option Nat := fun x => if 0 ≤ x then (match lookR V.reverse x.toNat with | some i => some (i + 2) | none => if x.toNat < 2 then some x.toNat else none) else none
def code0 (V : List Nat) (g : Nat) : Nat := (idxF V (g : Int)).getD 0

theorem idxF_snoc (V : List Nat) (f : Nat) : (fun x : Int => if x = (f : Int) then some (V.length + 2) else idxF V x) = idxF (V ++ [f]) := by
  funext x
  unfold idxF
  by_cases e : x = (f : Int)
  · subst e
    simp [lookR]
  · rw [if_neg e]
    by_cases h0 : 0 ≤ x
    · have : ¬ x.toNat = f := by omega
      simp [lookR, this]
    · simp [h0]

/-- The nodes as 'Save' lists them. -/
def saveN (M : Mgr) (V : List Nat) : List Nd := (List.range V.length).map fun i => ((M.nd (V.getD i 0)).1, code0 (V.take (i + 1)) (M.nd (V.getD i 0)).2.1, code0 (V.take (i + 1)) (M.nd (V.getD i 0)).2.2)
theorem saveN_len (M : Mgr) (V : List Nat) : (saveN M V).length = V.length := by simp [saveN]
theorem saveN_snoc (M : Mgr) (V : List Nat) (f : Nat) : saveN M (V ++ [f]) = saveN M V ++ [((M.nd f).1, code0 (V ++ [f]) (M.nd f).2.1, code0 (V ++ [f]) (M.nd f).2.2)] := by
  unfold saveN
  rw [List.length_append, List.length_singleton, List.range_succ, List.map_append]
  congr 1
  · apply List.map_congr_left
    intro i hi
    have hi' : i < V.length := by simpa using hi
    have e1 : (V ++ [f]).getD i 0 = V.getD i 0 := by simp [List.getD_eq_getElem?_getD, List.getElem?_append_left hi']
    have e2 : (V ++ [f]).take (i + 1) = V.take (i + 1) := List.take_append_of_le_length (by omega)
    rw [e1, e2]
  · have e1 : (V ++ [f]).getD V.length 0 = f := by simp
    have e2 : (V ++ [f]).take (V.length + 1) = V ++ [f] := by rw [List.take_of_length_le (by simp)]
    simp only [List.map_cons, List.map_nil, e1, e2]

/-- The state while 'Save' walks. -/
structure SavJ (w : World) (p : Nat) (M : Mgr) (L : Lay) (Bp Bn Bi bm bs : Nat) (E : Value × Nat × List Value) (x : World) (V : List Nat) : Prop where
  rep : Rep x p M L
  kp : Kp No w x
  bp : x.heap[Bp]? = some (.cells #[ptr p] 25 (0, 0))
  bn : ∃ nv, x.heap[Bn]? = some (.cells #[nv] 58 (0, 0)) ∧ x.ownsRow w.heap.size 125 3 nv V.length ((saveN M V).flatMap ndCells) ∧ nv.ownBlock ≠ some bs
  bi : x.heap[Bi]? = some (.cells #[.map (some bm)] 93 (0, 0))
  idx : MapAs x bm intV natV (idxF V)
  hBn : w.heap.size ≤ Bn
  ex : x.ownsRow w.heap.size 3 1 E.1 E.2.1 E.2.2 ∧ E.1.ownBlock ≠ some bs
  hbm : w.heap.size ≤ bm

theorem zeroInt (w : World) : (zeroValue 3).run Try.prog w = .ok (.int .i64 0) w := by kernel_rfl
theorem info_apinode : (Try.prog.info? 125).map (fun i => (i.zero, i.size, i.bytes)) = some (some (.agg #[.int .i64 0, .int .i64 0, .int .i64 0]), 3, 24) := by kernel_rfl

theorem row_zero {w : World} {B e size n : Nat} {v : Value} {xs : List Value} (h : w.ownsRow B e size v n xs) : w.ownsRow 0 e size v n xs := ⟨h.1, by
  rcases h.2 with x | ⟨g, cap, cur, hv, hg, r⟩
  · exact .inl x
  · exact .inr ⟨g, cap, cur, hv, Nat.zero_le _, r⟩⟩
theorem row_box {w : World} {B e size n : Nat} {v : Value} {xs : List Value} (h : w.ownsRow B e size v n xs) {z : Nat} {cs : Array Value} {t : TypeId} {fr : Nat × Nat} (h1 : w.heap[z]? = some (.cells cs t fr)) (h2 : t ≠ e) : ¬ v.ownBlock = some z := fun h3 => by
  obtain ⟨c1, g1⟩ := ownsRow_block h h3
  rw [g1] at h1
  cases h1
  exact h2 rfl
theorem map_box {K V : Type} [DecidableEq K] {w : World} {b : Nat} {enc : K → Value} {ev : V → Value} {f : K → Option V} (h : MapAs w b enc ev f) {z : Nat} {cs : Array Value} {t : TypeId} {fr : Nat × Nat} (h1 : w.heap[z]? = some (.cells cs t fr)) : z ≠ b := by
  rintro rfl
  obtain ⟨es, cl, hb, _⟩ := h
  rw [hb] at h1
  cases h1

theorem SavJ.kpo {w : World} {p : Nat} {M : Mgr} {L : Lay} {Bp Bn Bi bm bs : Nat} {E : Value × Nat × List Value} {x y : World} {V : List Nat} (j : SavJ w p M L Bp Bn Bi bm bs E x V) (k : Kp (fun k => k = bs) x y) (h0 : Bp ≠ bs) (h1 : Bn ≠ bs) (h2 : Bi ≠ bs) (h3 : bm ≠ bs) (h4 : ¬ L.at p bs) (h5 : w.heap.size ≤ bs) : SavJ w p M L Bp Bn Bi bm bs E y V := by
  obtain ⟨nv, hb, hrow, hne⟩ := j.bn
  exact ⟨j.rep.kp k (fun x e => by rw [e]; exact h4), j.kp.trans (A' := fun k => k = bs) (fun x e => .inr (by rw [e]; exact h5)) k, by rw [k.block _ (heap_lt j.bp) h0]; exact j.bp,
    ⟨nv, by rw [k.block _ (heap_lt hb) h1]; exact hb, ownsRow_kp hrow k (fun z hz e => hne (by rw [hz, e])), hne⟩, by rw [k.block _ (heap_lt j.bi) h2]; exact j.bi, j.idx.kp k h3, j.hBn, ⟨ownsRow_kp j.ex.1 k (fun z hz e => j.ex.2 (by rw [hz, e])), j.ex.2⟩, j.hbm⟩

set_option maxRecDepth 100000 in
set_option maxHeartbeats 2000000 in
theorem save_visit {w : World} {p : Nat} {M : Mgr} {L : Lay} {Bp Bn Bi bm bs : Nat} {E : Value × Nat × List Value} (hbs : bm ≠ bs) (hL : ∀ k, w.heap.size ≤ k → ¬ L.at p k) (x : World) (V : List Nat) (f : Nat) (S : List Nat) (hJ : SavJ w p M L Bp Bn Bi bm bs E x V) (hf : M.stored f) (hV : V.length < big) (hm : MapAs x bs intV Value.bool (seenF S)) :
    Calls Try.prog 80 (#[.int .i64 (f : Int)] ++ #[.pointer (some ⟨Bp, 0, none⟩), .pointer (some ⟨Bn, 0, none⟩), .pointer (some ⟨Bi, 0, none⟩)]) x (WPost (SavJ w p M L Bp Bn Bi bm bs E) bs (S, V ++ [f])) := by
  obtain ⟨i0, hi0, hz0, hz1, hz2⟩ := info_parts info_apinode
  obtain ⟨F, raw, _⟩ := hJ.rep.raw
  obtain ⟨bn, cn, hsn, hcn, hcm, hnd⟩ := raw.node_cells hJ.rep.wf
  have lt := M.stored_lt hJ.rep.wf hf
  obtain ⟨n0, n1, n2⟩ := hnd f lt
  have bnlt := World.block_lt_of_cell? _ _ n0
  have c2 := raw.c2
  rw [hsn] at c2
  have plt := raw.plt
  unfold natV at n1 n2
  unfold big at hV
  obtain ⟨nv, hbn, hrow, _⟩ := hJ.bn
  obtain ⟨an, cnv, rfl, _⟩ := ownsRow_len (row_zero hrow)
  have d1 : x.cell? ⟨Bp, 0, none⟩ = some (ptr p) := by simp [World.cell?, hJ.bp]
  have d2 : x.cell? ⟨Bn, 0, none⟩ = some (.slice an V.length cnv) := by simp [World.cell?, hbn]
  have d3 : x.cell? ⟨Bi, 0, none⟩ = some (.map (some bm)) := by simp [World.cell?, hJ.bi]
  have l1 := heap_lt hJ.bp
  have l2 := heap_lt hbn
  have l3 := heap_lt hJ.bi
  -- the box, the map
  have kA : Kp No x (x.alloc (box3 (M.nd f).1 (M.nd f).2.1 (M.nd f).2.2)) := Kp.alloc _
  obtain ⟨y, hupd, hmap, hky, hsy⟩ := (hJ.idx.kp kA (fun z => z)).update keyRef Try.underlying93 (f : Int) (V.length + 2)
  rw [idxF_snoc] at hmap
  have up : (Instr.mapUpdate 93 (.map (some bm)) (.int .i64 f) (.int .i64 ((V.length : Int) + 2))).run Try.prog (x.alloc (box3 (M.nd f).1 (M.nd f).2.1 (M.nd f).2.2)) = .ok () y := by
    have := hupd 0
    exact this
  have hbm2 : bm < x.heap.size := hJ.idx.lt
  have ky : Kp (fun k => k = bm) x y := kA.no_trans hky
  have cellY : ∀ {z : Nat} {cs : Array Value} {t : TypeId} {i : Nat}, x.heap[z]? = some (.cells cs t (0, 0)) → y.cell? ⟨z, i, none⟩ = x.cell? ⟨z, i, none⟩ := fun h => ky.cell (heap_lt h) (fun e => map_box hJ.idx h e)
  have d2y : y.cell? ⟨Bn, 0, none⟩ = some (.slice an V.length cnv) := by rw [cellY hbn]; exact d2
  have d3y : y.cell? ⟨Bi, 0, none⟩ = some (.map (some bm)) := by rw [cellY hJ.bi]; exact d3
  have z2y : y.frozen? ⟨Bn, 0, none⟩ = false := by
    rw [ky.frozen l2 (fun e => map_box hJ.idx hbn e)]; simp [World.frozen?, hbn]
  have hbx : y.heap[x.heap.size]? = some (box3 (M.nd f).1 (M.nd f).2.1 (M.nd f).2.2) := by
    rw [hky.block _ (by simp) (by omega)]; exact heap_alloc_new _ _
  have e0 : y.cell? ⟨x.heap.size, 0, none⟩ = some (.int .i64 (M.nd f).1) := by simp [World.cell?, hbx]
  have e1 : y.cell? ⟨x.heap.size, 1, none⟩ = some (.int .i64 (M.nd f).2.1) := by simp [World.cell?, hbx]
  have e2 : y.cell? ⟨x.heap.size, 2, none⟩ = some (.int .i64 (M.nd f).2.2) := by simp [World.cell?, hbx]
  have lk : ∀ g : Nat, (Instr.lookup 93 (.map (some bm)) (.int .i64 (g : Int)) false).run Try.prog y = .ok (.int .i64 (code0 (V ++ [f]) g : Int)) y := fun g => by
    have := hmap.lookup keyRef Try.underlying93 zeroInt (g : Int) false
    have e : ((idxF (V ++ [f]) (g : Int)).map natV).getD (.int .i64 0) = .int .i64 (code0 (V ++ [f]) g : Int) := by
      unfold code0
      cases idxF (V ++ [f]) (g : Int) <;> rfl
    rw [e] at this
    exact this
  have lk1 := lk (M.nd f).2.1
  have lk2 := lk (M.nd f).2.2
  have hrowY := ownsRow_kp hrow ky (fun z hz e => row_map (row_zero hrow) hJ.idx (by rw [← e]; exact hz))
  have l2y : Bn < y.heap.size := Nat.lt_of_lt_of_le l2 ky.size
  have hwy : w.heap.size ≤ y.heap.size := Nat.le_trans hJ.kp.size ky.size
  have HBP := Lib.hid hJ.bp
  have HBN := Lib.hid hbn
  have HBI := Lib.hid hJ.bi
  have JJ := Lib.hid hJ
  have KY := Lib.hid ky
  have HM := Lib.hid hm
  have HMAP := Lib.hid hmap
  have HROW := Lib.hid hrowY
  have hm1 := maxLen_val
  have hle2 : M.nodes.length ≤ 9223372036854775807 := by omega
  have b1 : (f : Int) < M.nodes.length := by omega
  have hBno : ¬ (Value.slice an V.length cnv).ownBlock = some Bn := row_box hrow hbn (by decide)
  have SNOC := Lib.hid (saveN_snoc M V f)
  clear hJ hm raw hsn hnd hcn hcm hm1 hf hrow hbn hky hupd kA lk hmap hbx hsy cellY ky
  show Calls Try.prog 80 #[.int .i64 (f : Int), .pointer (some ⟨Bp, 0, none⟩), .pointer (some ⟨Bn, 0, none⟩), .pointer (some ⟨Bi, 0, none⟩)] x _
  generalize M.nodes.length = nl at *
  generalize (code0 (V ++ [f]) (M.nd f).2.1) = q1 at *
  generalize (code0 (V ++ [f]) (M.nd f).2.2) = q2 at *
  go_enter Try.func80, Try.ntmps80
  go_wp2_with (at_builtin; refine wpList_append_lies _ rfl (.tmp 18) (.tmp 30) _ rfl w.heap.size 125 i0 _ 3 24 Try.underlying58 hi0 hz0 hz1 hz2 rfl (by omega) _ V.length ((saveN M V).flatMap ndCells) rfl (hrowY.alloc _) ⟨y.heap.size, 0, none⟩ 1 1 [.int .i64 (M.nd f).1, .int .i64 (q1 : Int), .int .i64 (q2 : Int)] rfl rfl (World.news_of_block (heap_alloc_new _ _)) (by simp [Value.oneCell']) (by omega) (by unfold maxLen; omega) (by omega) (by simp; omega) (y.heap.size + 1) (by simp) ?_; intro g cap z hown hgrow hat hlt; have y2 : z.cell? ⟨Bn, 0, none⟩ = some (.slice an V.length cnv) := (hgrow.cell_far ⟨Bn, 0, none⟩ (by simp; omega) (fun e => hBno e.symm)).trans ((World.cell?_alloc_lt _ _ _ l2y).trans d2y); have y3 : z.frozen? ⟨Bn, 0, none⟩ = false := (hgrow.frozen_far ⟨Bn, 0, none⟩ (by simp; omega) (fun e => hBno e.symm)).trans ((World.frozen?_alloc_old _ _ _ (by simp; omega)).trans z2y))
  go_end0
  have kg : Kp (fun k => (Value.slice an V.length cnv).ownBlock = some k) y z := grown_no (Kp.alloc _) hgrow
  have j := JJ.out
  have ky := KY.out
  have rx : x.ownsRow w.heap.size 125 3 (Value.slice an V.length cnv) V.length ((saveN M V).flatMap ndCells) := by
    obtain ⟨nv', h1, h2, _⟩ := j.bn
    rw [HBN.out] at h1
    simp only [Option.some.injEq, Obj.cells.injEq, Array.mk.injEq, List.cons.injEq, and_true] at h1
    rw [h1]
    exact h2
  have boxY : ∀ {q : Nat} {cs : Array Value} {t : TypeId}, x.heap[q]? = some (.cells cs t (0, 0)) → y.heap[q]? = some (.cells cs t (0, 0)) := fun h => by rw [ky.block _ (heap_lt h) (fun e => map_box j.idx h e)]; exact h
  have boxZ : ∀ {q : Nat} {cs : Array Value} {t : TypeId}, x.heap[q]? = some (.cells cs t (0, 0)) → t ≠ 125 → z.heap[q]? = some (.cells cs t (0, 0)) := fun h ht => by rw [kg.block _ (heap_lt (boxY h)) (row_box HROW.out (boxY h) ht)]; exact boxY h
  have ne : ∀ {q r : Nat} {c1 c2 : Array Value} {t1 t2 : TypeId}, x.heap[q]? = some (.cells c1 t1 (0, 0)) → x.heap[r]? = some (.cells c2 t2 (0, 0)) → t1 ≠ t2 → q ≠ r := fun h1 h2 ht e => by
    subst e; rw [h1] at h2; cases h2; exact ht rfl
  have kall : Kp (fun k => k = bm ∨ (Value.slice an V.length cnv).ownBlock = some k ∨ k = Bn) x (z.setCell ⟨Bn, 0, none⟩ (.slice (some ⟨g, 0, none⟩) (V.length + 1) cap)) :=
    ((ky.mono (fun k _ e => .inl e)).trans (A' := fun k => k = bm ∨ (Value.slice an V.length cnv).ownBlock = some k ∨ k = Bn) (fun k h => .inl h) (kg.mono (fun k _ e => .inr (.inl e)))).trans (A' := fun k => k = bm ∨ (Value.slice an V.length cnv).ownBlock = some k ∨ k = Bn) (fun k h => .inl h) ((Kp.setCell _ _).mono (fun k _ e => .inr (.inr e)))
  have ge : ∀ k, (k = bm ∨ (Value.slice an V.length cnv).ownBlock = some k ∨ k = Bn) → w.heap.size ≤ k := fun k h => by
    rcases h with h | h | h
    · rw [h]; exact j.hbm
    · exact (rx.lt k h).1
    · rw [h]; exact j.hBn
  have off : ∀ {q : Nat} {cs : Array Value} {t : TypeId}, x.heap[q]? = some (.cells cs t (0, 0)) → t ≠ 125 → t ≠ 58 → ¬ (q = bm ∨ (Value.slice an V.length cnv).ownBlock = some q ∨ q = Bn) := fun h h1 h2 e => by
    rcases e with e | e | e
    · exact map_box j.idx h e
    · exact row_box rx h h1 e
    · exact ne h HBN.out h2 e
  have hzn := boxZ HBN.out (by decide)
  refine ⟨rfl, ⟨j.rep.kp kall (fun k h => hL k (ge k h)), j.kp.trans (A' := fun k => k = bm ∨ (Value.slice an V.length cnv).ownBlock = some k ∨ k = Bn) (fun k h => .inr (ge k h)) kall, ?_, ⟨.slice (some ⟨g, 0, none⟩) (V.length + 1) cap, ?_, ?_, ?_⟩, ?_, ?_, j.hBn, ⟨ownsRow_kp j.ex.1 kall (fun q hq e => ?_), j.ex.2⟩, j.hbm⟩, HM.out.kp kall (fun e => ?_)⟩
  · rw [kall.block _ l1 (off HBP.out (by decide) (by decide))]; exact HBP.out
  · rw [setCell_heap hzn]; rfl
  · rw [SNOC.out, List.flatMap_append]
    have : (V ++ [f]).length = V.length + 1 := by simp
    rw [this]
    refine ownsRow_kp ?_ (Kp.setCell _ _) (fun q hq e => row_box hown hzn (by decide) (by rw [hq, e]))
    simpa [ndCells] using hown
  · intro e
    refine row_map (row_zero hown) ((HM.out.kp ky (fun e => hbs e.symm)).kp kg (fun e => row_map (row_zero HROW.out) (HM.out.kp ky (fun e => hbs e.symm)) e)) e
  · rw [kall.block _ l3 (off HBI.out (by decide) (by decide))]; exact HBI.out
  · refine (HMAP.out.kp kg (fun e => row_map (row_zero HROW.out) HMAP.out e)).kp (Kp.setCell _ _) (fun e => ?_)
    exact map_box j.idx HBN.out e.symm
  · rcases e with e | e | e
    · exact row_map (row_zero j.ex.1) j.idx (by rw [hq, e])
    · exact row_ne (row_zero j.ex.1) (row_zero rx) (by decide) hq e
    · exact row_box j.ex.1 HBN.out (by decide) (by rw [hq, e])
  · rcases e with e | e | e
    · exact hbs e.symm
    · exact row_map (row_zero rx) HM.out e
    · exact map_box HM.out HBN.out e.symm

/-! ### the whole of 'Save' -/
def saveStep (M : Mgr) (st : (List Nat × List Nat) × List Int) (f : Int) : (List Nat × List Nat) × List Int :=
  if M.valid f = true then (M.walkS (M.n + 1) st.1 f.toNat, st.2 ++ [(code0 (M.walkS (M.n + 1) st.1 f.toNat).2 f.toNat : Int)]) else (st.1, st.2 ++ [-1])
def saveM (M : Mgr) (fs : List Int) : (List Nat × List Nat) × List Int := fs.foldl (saveStep M) (([], []), [])
theorem saveM_snoc (M : Mgr) (fs : List Int) (f : Int) : saveM M (fs ++ [f]) = saveStep M (saveM M fs) f := by simp [saveM, List.foldl_append]
theorem saveStep_len (M : Mgr) (st : (List Nat × List Nat) × List Int) (f : Int) : (saveStep M st f).2.length = st.2.length + 1 := by
  unfold saveStep; split <;> simp
theorem saveM_len (M : Mgr) (fs : List Int) : (saveM M fs).2.length = fs.length := by
  have : ∀ (fs : List Int) st, (fs.foldl (saveStep M) st).2.length = st.2.length + fs.length := by
    intro fs
    induction fs with
    | nil => intro st; rfl
    | cons f fs ih => intro st; rw [List.foldl_cons, ih, saveStep_len, List.length_cons]; omega
  have h := this fs (([], []), [])
  simpa [saveM] using h

/-- What has been seen is what has been visited. -/
structure SeenV (M : Mgr) (s : List Nat × List Nat) : Prop where
  mem : ∀ g, g ∈ s.1 ↔ g ∈ s.2
  nodup : s.2.Nodup
  st : ∀ g, g ∈ s.2 → M.stored g ∧ 2 ≤ g
  closed : M.Closed 0 s.1
theorem SeenV.nil (M : Mgr) : SeenV M ([], []) := ⟨fun _ => Iff.rfl, List.nodup_nil, fun g h => by simp at h, fun g h => by simp at h⟩
theorem SeenV.len {M : Mgr} (h : M.WF) {s : List Nat × List Nat} (v : SeenV M s) : s.2.length ≤ M.nodes.length := by
  have hsub : ∀ g, g ∈ s.2 → g ∈ List.range M.nodes.length := fun g hg => by
    obtain ⟨st, h2⟩ := v.st g hg
    simpa using M.stored_lt h st
  have := Mgr.nodup_length _ _ v.nodup hsub
  simpa using this
theorem SeenV.walk {M : Mgr} (h : M.WF) {s : List Nat × List Nat} (v : SeenV M s) {f : Nat} (hf : M.stored f) : SeenV M (M.walkS (M.n + 1) s f) := by
  obtain ⟨N, sp⟩ := Mgr.walk_spec h (M.n + 1) f s hf (by omega)
  refine ⟨fun g => ?_, ?_, fun g hg => ?_, ?_⟩
  · rw [sp.seen, sp.vis, List.mem_append, v.mem]
  · rw [sp.vis, List.nodup_append]
    exact ⟨v.nodup, sp.nodup, fun a ha b hb e => sp.fresh b hb ((v.mem b).2 (e ▸ ha))⟩
  · rw [sp.vis, List.mem_append] at hg
    rcases hg with hg | hg
    · exact v.st g hg
    · exact ⟨(sp.deep g hg).1, (sp.deep g hg).2.1⟩
  · exact sp.closed 0 (Nat.zero_le _) (fun g hg _ h2 => v.closed g hg (Nat.zero_le _) h2) v.closed
theorem saveM_seen {M : Mgr} (h : M.WF) (fs : List Int) : SeenV M (saveM M fs).1 := by
  have : ∀ (fs : List Int) st, SeenV M st.1 → SeenV M (fs.foldl (saveStep M) st).1 := by
    intro fs
    induction fs with
    | nil => intro st hs; exact hs
    | cons f fs ih =>
      intro st hs
      rw [List.foldl_cons]
      apply ih
      unfold saveStep
      split
      · rename_i hv
        obtain ⟨k, rfl, sk, _⟩ := Mgr.valid_nat h hv
        exact hs.walk h (by rw [Int.toNat_natCast]; exact sk)
      · exact hs
  exact this fs _ (SeenV.nil M)

def SavePost (w : World) (N : List Nd) (R : List Int) (e : Ending) (w' : World) : Prop :=
  ∃ nv rv, e = .returned (.tuple #[nv, rv]) ∧ w'.ownsRow w.heap.size 125 3 nv N.length (N.flatMap ndCells) ∧ w'.ownsRow w.heap.size 3 1 rv R.length (R.map intV) ∧ Kp No w w'

def SavR (w : World) (p : Nat) (M : Mgr) (L : Lay) (Bp Bn Bi bm bs : Nat) (fs : List Int) (gk : Nat) (s9 s17 : Value) (x : World) : Prop :=
  ∃ k rv, k + gk = fs.length ∧ s17 = .int .i64 (k : Int) ∧ rv = s9 ∧ SavJ w p M L Bp Bn Bi bm bs (rv, k, (saveM M (fs.take k)).2.map intV) x (saveM M (fs.take k)).1.2 ∧ MapAs x bs intV Value.bool (seenF (saveM M (fs.take k)).1.1)

/-- A number is appended to the roots. -/
theorem SavJ.push {w : World} {p : Nat} {M : Mgr} {L : Lay} {Bp Bn Bi bm bs : Nat} {A x y : World} {V S : List Nat} {rv : Value} {n : Nat} {xs : List Value} {g cap : Nat} {u : Value} (j : SavJ w p M L Bp Bn Bi bm bs (rv, n, xs) x V) (hm : MapAs x bs intV Value.bool (seenF S))
    (kA : Kp No x A) (hown : y.ownsRow w.heap.size 3 1 (.slice (some ⟨g, 0, none⟩) (n + 1) cap) (n + 1) (xs ++ [u])) (hgrow : A.grownBy y rv.ownBlock) (hL : ∀ k, w.heap.size ≤ k → ¬ L.at p k) :
    SavJ w p M L Bp Bn Bi bm bs (.slice (some ⟨g, 0, none⟩) (n + 1) cap, n + 1, xs ++ [u]) y V ∧ MapAs y bs intV Value.bool (seenF S) := by
  have own := j.ex.1
  simp only at own
  have k : Kp (fun z => rv.ownBlock = some z) x y := grown_no kA hgrow
  obtain ⟨nv, hb, hrow, hne⟩ := j.bn
  have hm2 := hm.kp k (row_map (row_zero own) hm)
  refine ⟨⟨j.rep.kp k (fun z hz => hL z (own.lt z hz).1), j.kp.trans (A' := fun z => rv.ownBlock = some z) (fun z hz => .inr (own.lt z hz).1) k, by rw [k.block _ (heap_lt j.bp) (row_box own j.bp (by decide))]; exact j.bp,
    ⟨nv, by rw [k.block _ (heap_lt hb) (row_box own hb (by decide))]; exact hb, ownsRow_kp hrow k (fun z hz e => row_ne (row_zero hrow) (row_zero own) (by decide) hz e), hne⟩,
    by rw [k.block _ (heap_lt j.bi) (row_box own j.bi (by decide))]; exact j.bi, j.idx.kp k (row_map (row_zero own) j.idx), j.hBn, ⟨hown, fun e => row_map (row_zero hown) hm2 e⟩, j.hbm⟩, hm2⟩

theorem idxF_nil : (fun x : Int => if x = 1 then some 1 else if x = 0 then some 0 else (none : Option Nat)) = idxF [] := by
  funext x
  unfold idxF
  simp only [List.reverse_nil, lookR]
  by_cases h1 : x = 1
  · subst h1; rfl
  · rw [if_neg h1]
    by_cases h0 : x = 0
    · subst h0; rfl
    · rw [if_neg h0]
      by_cases hp : 0 ≤ x
      · rw [if_pos hp, if_neg (by omega)]
      · rw [if_neg hp]

set_option maxRecDepth 100000 in
set_option maxHeartbeats 4000000 in
theorem Save_ok {p : Nat} {M : Mgr} {L : Lay} (fs : List Int) {fsv : Value} {w : World} (R : Rep w p M L) (hfs : SrcAt w fsv 1 fs.length (fs.map intV)) (hfl : fs.length ≤ 1000000) (hnl : M.nodes.length < big) :
    Calls Try.prog 33 #[ptr p, fsv] w (SavePost w (saveN M (saveM M fs).1.2) (saveM M fs).2) := by
  obtain ⟨i0, hi0, hz0, hz1, hz2⟩ := info_parts info_int
  have hmm := @run_makeMap Try.prog
  have HFS := Lib.hid hfs
  obtain ⟨ao, cfs, rfl, _⟩ := hfs
  have plt := R.plt
  have HL : Hid (∀ k, w.heap.size ≤ k → ¬ L.at p k) := Lib.hid (fun k hk h => by have := R.lt _ h; omega)
  -- the blocks of the call's own
  obtain ⟨W2, hW2⟩ : ∃ W2, W2 = (w.alloc (.cells #[ptr p] 25)).alloc (.cells #[.slice none 0 0] 58) := ⟨_, rfl⟩
  have sW2 : W2.heap.size = w.heap.size + 2 := by rw [hW2]; simp
  have kW2 : Kp No w W2 := by rw [hW2]; exact (Kp.alloc _).trans_no (Kp.alloc _)
  have m0 := MapAs.empty W2 intV natV
  rw [sW2] at m0
  obtain ⟨W4, up4, m4, k4, s4⟩ := m0.update keyRef Try.underlying93 (0 : Int) 0
  obtain ⟨W5, up5, m5, k5, s5⟩ := m4.update keyRef Try.underlying93 (1 : Int) 1
  have u4 : (Instr.mapUpdate 93 (.map (some (w.heap.size + 2))) (.int .i64 0) (.int .i64 0)).run Try.prog (W2.alloc (.map #[] 0)) = .ok () W4 := up4 0
  have u5 : (Instr.mapUpdate 93 (.map (some (w.heap.size + 2))) (.int .i64 1) (.int .i64 1)).run Try.prog W4 = .ok () W5 := up5 0
  rw [idxF_nil] at m5
  have s3 : (W2.alloc (.map #[] 0)).heap.size = w.heap.size + 3 := by simp [sW2]
  have s5' : W5.heap.size = w.heap.size + 3 := by rw [s5, s4, s3]
  have k35 : Kp (fun k => k = w.heap.size + 2) (W2.alloc (.map #[] 0)) W5 := k4.trans (A' := fun k => k = w.heap.size + 2) (fun k h => .inl h) k5
  have kw5 : Kp No w W5 := (kW2.trans_no (Kp.alloc _)).trans (A' := fun k => k = w.heap.size + 2) (fun k h => .inr (by omega)) k35
  have b2 : W2.heap[w.heap.size]? = some (.cells #[ptr p] 25 (0, 0)) := by
    rw [hW2, Below.heap_alloc _ _ _ (by simp)]; exact heap_alloc_new _ _
  have b3 : W2.heap[w.heap.size + 1]? = some (.cells #[.slice none 0 0] 58 (0, 0)) := by
    rw [hW2]
    have := heap_alloc_new (w.alloc (.cells #[ptr p] 25)) (.cells #[.slice none 0 0] 58)
    simpa using this
  have b25 : W5.heap[w.heap.size]? = some (.cells #[ptr p] 25 (0, 0)) := by
    rw [k35.block _ (by omega) (by omega), Below.heap_alloc _ _ _ (by omega)]; exact b2
  have b35 : W5.heap[w.heap.size + 1]? = some (.cells #[.slice none 0 0] 58 (0, 0)) := by
    rw [k35.block _ (by omega) (by omega), Below.heap_alloc _ _ _ (by omega)]; exact b3
  have k57 : Kp No W5 ((W5.alloc (.cells #[.map (some (w.heap.size + 2))] 93)).alloc (.map #[] 0)) := (Kp.alloc _).trans_no (Kp.alloc _)
  have J0 : SavJ w p M L w.heap.size (w.heap.size + 1) (w.heap.size + 3) (w.heap.size + 2) (w.heap.size + 4) (.slice none 0 0, 0, []) ((W5.alloc (.cells #[.map (some (w.heap.size + 2))] 93)).alloc (.map #[] 0)) [] := by
    refine ⟨R.no (kw5.trans_no k57), kw5.trans_no k57, ?_, ⟨_, ?_, World.ownsRow_nil _ _ _ _, by simp [Value.ownBlock]⟩, ?_, m5.kp k57 (fun x => x), by omega, ⟨World.ownsRow_nil _ _ _ _, by simp [Value.ownBlock]⟩, by omega⟩
    · rw [k57.block _ (heap_lt b25) (fun x => x)]; exact b25
    · rw [k57.block _ (heap_lt b35) (fun x => x)]; exact b35
    · rw [Below.heap_alloc _ _ _ (by simp; omega)]
      have := heap_alloc_new W5 (.cells #[.map (some (w.heap.size + 2))] 93)
      rw [s5'] at this
      exact this
  have M0 : MapAs ((W5.alloc (.cells #[.map (some (w.heap.size + 2))] 93)).alloc (.map #[] 0)) (w.heap.size + 4) intV Value.bool (seenF []) := by
    have := MapAs.empty (W5.alloc (.cells #[.map (some (w.heap.size + 2))] 93)) intV Value.bool
    rw [← seenF_nil] at this
    have e2 : (W5.alloc (.cells #[.map (some (w.heap.size + 2))] 93)).heap.size = w.heap.size + 4 := by simp [s5']
    rw [e2] at this
    exact this
  have S0 : Hid (SavR w p M L w.heap.size (w.heap.size + 1) (w.heap.size + 3) (w.heap.size + 2) (w.heap.size + 4) fs fs.length (.slice none 0 0) (.int .i64 0) ((W5.alloc (.cells #[.map (some (w.heap.size + 2))] 93)).alloc (.map #[] 0))) :=
    ⟨0, _, by omega, rfl, rfl, J0, M0⟩
  have WF := Lib.hid R.wf
  have vis : ∀ E, Visits M p L (w.heap.size + 4) 80 #[.pointer (some ⟨w.heap.size, 0, none⟩), .pointer (some ⟨w.heap.size + 1, 0, none⟩), .pointer (some ⟨w.heap.size + 3, 0, none⟩)] big (SavJ w p M L w.heap.size (w.heap.size + 1) (w.heap.size + 3) (w.heap.size + 2) (w.heap.size + 4) E) := fun E =>
    ⟨fun w f => by kernel_rfl, fun _ _ h => h.rep, fun x y V h k => h.kpo k (by omega) (by omega) (by omega) (by omega) (HL.out _ (by omega)) (by omega),
      fun x V f S h hf _ hl hm => save_visit (by omega) HL.out x V f S h hf hl hm⟩
  have VIS := Lib.hid vis
  clear vis J0 M0 k57 b25 b35 b2 b3 kw5 k35 m5 m4 m0 up4 up5 k4 k5 s4 s5 R
  have HS5 := Lib.hid s5'
  have hfli : (fs.length : Int) ≤ 1000000 := by omega
  have hu4 := Lib.hid u4
  have hu5 := Lib.hid u5
  have HN := Lib.hid hnl
  clear u4 u5 s5' s3 kW2 hnl
  go_enter Try.func33, Try.ntmps33
  rw [hW2] at hu4
  have u4 := hu4.out
  have u5 := hu5.out
  clear hu4 hu5
  go_wp2_with fail
  rw [HS5.out]
  clear u4 u5 hmm hW2 sW2
  have SAV := Lib.hid (fun k (h : k < fs.length) => show saveM M (fs.take (k + 1)) = saveStep M (saveM M (fs.take k)) fs[k] by rw [List.take_succ_eq_append_getElem h, saveM_snoc])
  have HS5' := HS5
  clear HS5
  go_loopg [9, 17] fs.length (fun gk s9 s17 x => SavR w p M L w.heap.size (w.heap.size + 1) (w.heap.size + 3) (w.heap.size + 2) (w.heap.size + 4) fs gk s9 s17 x)
  case atStart => exact S0.out
  case round =>
    clear S0
    obtain ⟨k, rv, hk, rfl, e9, j, hm⟩ := hrel
    subst e9
    by_cases hlt : k < fs.length
    · obtain ⟨ao', c', hv', _, hcells⟩ := HFS.out.no j.kp
      cases hv'
      rcases hcells with hcells | ⟨g, o, rfl, hg, hcells⟩
      · omega
      have hc : wr.cell? ⟨g, o + k, none⟩ = some (.int .i64 fs[k]) := hcells k _ (by simp [intV, hlt])
      have hlti : (k : Int) < fs.length := by omega
      have HK := Lib.hid hk
      have d1 : wr.cell? ⟨w.heap.size, 0, none⟩ = some (ptr p) := by simp [World.cell?, j.bp]
      have hslen := saveM_len M (fs.take k)
      have hslen2 : (saveM M (fs.take k)).2.length = k := by rw [hslen, List.length_take]; omega
      have SLEN := Lib.hid hslen2
      have hsz := j.kp.size
      have sk := SAV.out k hlt
      have hseen := saveM_seen WF.out (fs.take k)
      have NXT : Hid (∀ (y : World) (g cap : Nat), SavJ w p M L w.heap.size (w.heap.size + 1) (w.heap.size + 3) (w.heap.size + 2) (w.heap.size + 4) (.slice (some ⟨g, 0, none⟩) (k + 1) cap, k + 1, (saveM M (fs.take (k + 1))).2.map intV) y (saveM M (fs.take (k + 1))).1.2 → MapAs y (w.heap.size + 4) intV Value.bool (seenF (saveM M (fs.take (k + 1))).1.1) →
          SavR w p M L w.heap.size (w.heap.size + 1) (w.heap.size + 3) (w.heap.size + 2) (w.heap.size + 4) fs (fs.length - (k + 1)) (.slice (some ⟨g, 0, none⟩) (k + 1) cap) (.int .i64 ((k + 1 : Nat) : Int)) y) := Lib.hid (fun y g cap a b => ⟨k + 1, _, by omega, rfl, rfl, a, b⟩)
      clear hcells hk hslen hslen2
      generalize hf : fs[k] = f at *
      clear hf
      generalize saveM M (fs.take (k + 1)) = st3 at *
      generalize saveM M (fs.take k) = st at *
      by_cases hf : M.valid f = true
      · have VAL := Lib.hid (valid_as f true j.rep hf)
        obtain ⟨n, rfl, sf, _⟩ := Mgr.valid_nat WF.out hf
        have sk2 : st3 = (M.walkS (M.n + 1) st.1 n, st.2 ++ [(code0 (M.walkS (M.n + 1) st.1 n).2 n : Int)]) := by rw [sk]; unfold saveStep; rw [if_pos hf, Int.toNat_natCast]
        have hseen2 := hseen.walk WF.out sf
        have CALL := Lib.hid (walk_ok (VIS.out _) (M.n + 1) n wr st.1.1 st.1.2 (by omega) sf j hm (by have h1 := hseen2.len WF.out; have h2 := HN.out; exact Nat.le_of_lt (Nat.lt_of_le_of_lt h1 h2)))
        have SK2 := Lib.hid sk2
        clear sk sk2 hf sf hm j hseen hseen2
        go_wp2_with fail
        refine VAL.out.mono ?_
        rintro e w' ⟨rfl, rfl⟩
        go_wp2_with fail
        refine CALL.out.mono ?_
        rintro e w2 ⟨rfl, j2, hm2⟩
        have e12 : (st.1.1, st.1.2) = st.1 := rfl
        rw [e12] at j2 hm2
        clear CALL VAL d1 hc
        generalize M.walkS (M.n + 1) st.1 n = st2 at *
        have d4 : w2.cell? ⟨w.heap.size + 3, 0, none⟩ = some (.map (some (w.heap.size + 2))) := by simp [World.cell?, j2.bi]
        have lk : (Instr.lookup 93 (.map (some (w.heap.size + 2))) (.int .i64 (n : Int)) false).run Try.prog w2 = .ok (.int .i64 (code0 st2.2 n : Int)) w2 := by
          have h1 := j2.idx.lookup keyRef Try.underlying93 zeroInt (n : Int) false
          have e : ((idxF st2.2 (n : Int)).map natV).getD (.int .i64 0) = .int .i64 (code0 st2.2 n : Int) := by
            unfold code0
            cases idxF st2.2 (n : Int) <;> rfl
          rw [e] at h1
          exact h1
        have own := j2.ex.1
        simp only at own
        have hsz2 := j2.kp.size
        have J2 := Lib.hid j2
        have HM2 := Lib.hid hm2
        clear j2 hm2
        generalize (code0 st2.2 n : Int) = q at *
        go_upto_region 12 with (at_builtin; refine wpList_append_lies _ rfl (.tmp 33) (.tmp 37) _ rfl w.heap.size 3 i0 _ 1 8 Try.underlying33 hi0 hz0 hz1 hz2 rfl (by omega) rv k (st.2.map intV) rfl (own.alloc _) ⟨w2.heap.size, 0, none⟩ 1 1 [.int .i64 q] rfl rfl (World.news_of_block (heap_alloc_new _ _)) (by simp [Value.oneCell']) (by omega) (by unfold maxLen; omega) (by omega) (by simp; omega) (w2.heap.size + 1) (by simp) ?_; intro g2 cap w3 hown hgrow hat hlt2)
        obtain ⟨j3, hm3⟩ := J2.out.push HM2.out (Kp.alloc _) hown hgrow HL.out
        have NX := Lib.hid (NXT.out w3 g2 cap (by rw [SK2.out]; simpa [intV] using j3) (by rw [SK2.out]; exact hm3))
        clear hown hgrow hat hlt2 own j3 hm3 lk d4
        go_wp2
        go_roundg (fs.length - (k + 1))
        case measure => have := HK.out; omega
        case rel => exact NX.out
      · have VAL := Lib.hid (valid_as f false j.rep (by simpa using hf))
        have sk2 : st3 = (st.1, st.2 ++ [-1]) := by rw [sk]; unfold saveStep; rw [if_neg hf]
        have SK2 := Lib.hid sk2
        have own := j.ex.1
        simp only at own
        have J2 := Lib.hid j
        have HM2 := Lib.hid hm
        clear sk sk2 hf hm j hseen
        go_wp2_with fail
        refine VAL.out.mono ?_
        rintro e w' ⟨rfl, rfl⟩
        go_upto_region 12 with (at_builtin; refine wpList_append_lies _ rfl (.tmp 25) (.tmp 26) _ rfl w.heap.size 3 i0 _ 1 8 Try.underlying33 hi0 hz0 hz1 hz2 rfl (by omega) rv k (st.2.map intV) rfl (own.alloc _) ⟨wr.heap.size, 0, none⟩ 1 1 [.int .i64 (-1)] rfl rfl (World.news_of_block (heap_alloc_new _ _)) (by simp [Value.oneCell']) (by omega) (by unfold maxLen; omega) (by omega) (by simp; omega) (wr.heap.size + 1) (by simp) ?_; intro g2 cap w3 hown hgrow hat hlt2)
        obtain ⟨j3, hm3⟩ := J2.out.push HM2.out (Kp.alloc _) hown hgrow HL.out
        have NX := Lib.hid (NXT.out w3 g2 cap (by rw [SK2.out]; simpa [intV] using j3) (by rw [SK2.out]; exact hm3))
        clear hown hgrow hat hlt2 own j3 hm3
        go_wp2
        go_roundg (fs.length - (k + 1))
        case measure => have := HK.out; omega
        case rel => exact NX.out
    · obtain rfl : k = fs.length := by omega
      rw [List.take_length] at j
      obtain ⟨nv, hbn, hrow, _⟩ := j.bn
      have d2 : wr.cell? ⟨w.heap.size + 1, 0, none⟩ = some nv := by simp [World.cell?, hbn]
      have P : Hid (SavePost w (saveN M (saveM M fs).1.2) (saveM M fs).2 (.returned (.tuple #[nv, rv])) wr) := ⟨nv, rv, rfl, by rw [saveN_len]; exact hrow, by rw [saveM_len]; exact j.ex.1, j.kp⟩
      have hge : ¬ (fs.length : Int) < fs.length := by omega
      clear j hbn hrow hk hm
      go_wp2
      go_ret2
      exact P.out

end Go.Proofs.Ytngbodmooddjbaa
