/-
  Walks: 'Sift' of the package reorder.
-/
import Derived.Test.YtngbodmooddjbaaGreatSfl
import Derived.Test.YtngbodmooddjbaaGreatDx
import Derived.Test.YtngbodmooddjbaaGreatKeep
import Derived.Test.YtngbodmooddjbaaGreatSaveP
import Derived.Test.YtngbodmooddjbaaGreatRsw
import Derived.Test.YtngbodmooddjbaaGreatSt2
import Derived.Deep.CutBlock
import Derived.Deep.QuietTactic
import Derived.BigQuiet
import Derived.Outline
namespace Go.Proofs.YtngbodmooddjbaaGreat
open Go.RowKit

/-- What holds of the nodes and the roots that 'Save' returns. -/
structure NkOk (o : List Nat) (N : List Nd) (R : List Int) : Prop where
  var : ∀ j, j < N.length → 0 ≤ (N.getD j nZ).1 ∧ (N.getD j nZ).1.toNat < o.length
  kid : ∀ j, j < N.length → (N.getD j nZ).2.1 < j + 2 ∧ (N.getD j nZ).2.2 < j + 2
  inj : ∀ i j, i < N.length → j < N.length → (N.getD i nZ).1.toNat = (N.getD j nZ).1.toNat → (N.getD i nZ).2 = (N.getD j nZ).2 → i = j
  root : ∀ i, i < R.length → R.getD i 0 < 0 ∨ ∃ r : Nat, R.getD i 0 = (r : Int) ∧ r < N.length + 2
theorem nk_of {M : Mgr} (h : M.WF) (fs : List Int) : NkOk M.order (saveN M (saveM M fs).1.2) (saveM M fs).2 := by
  have a := saveM_all h fs
  have v := a.v
  generalize hs : (saveM M fs).1 = s at *
  have lN : (saveN M s.2).length = s.2.length := saveN_len M s.2
  have hN : saveN M s.2 = s.2.map fun f => ((M.nd f).1, code0 s.2 (M.nd f).2.1, code0 s.2 (M.nd f).2.2) := v.nodes
  have gN : ∀ i, i < s.2.length → (saveN M s.2).getD i nZ = ((M.nd (s.2.getD i 0)).1, code0 s.2 (M.nd (s.2.getD i 0)).2.1, code0 s.2 (M.nd (s.2.getD i 0)).2.2) := fun i hi => by
    rw [hN, List.getD_eq_getElem?_getD, List.getElem?_map, List.getElem?_eq_getElem hi, List.getD_eq_getElem?_getD, List.getElem?_eq_getElem hi]; rfl
  have gV : ∀ i, i < s.2.length → s.2[i]? = some (s.2.getD i 0) := fun i hi => by
    rw [List.getD_eq_getElem?_getD, List.getElem?_eq_getElem hi]; rfl
  have mV : ∀ i, i < s.2.length → s.2.getD i 0 ∈ s.2 := fun i hi => List.mem_of_getElem? (gV i hi)
  have var : ∀ j, j < s.2.length → 0 ≤ ((saveN M s.2).getD j nZ).1 ∧ ((saveN M s.2).getD j nZ).1.toNat < M.n := fun j hj => by
    rw [gN j hj]
    have m := v.st _ (mV j hj)
    obtain ⟨v0, v1, _⟩ := Mgr.node_of h m.1 m.2
    refine ⟨v0, ?_⟩
    show (M.nd (s.2.getD j 0)).1.toNat < M.n
    omega
  refine ⟨fun j hj => var j (by omega), fun j hj => ?_, fun i j hi hj e1 e2 => ?_, fun i hi => ?_⟩
  · rw [gN j (by omega)]
    have q1 := v.child (gV j (by omega)) (.inl rfl)
    have q2 := v.child (gV j (by omega)) (.inr rfl)
    exact ⟨Nat.lt_succ_of_le q1.2.1, Nat.lt_succ_of_le q2.2.1⟩
  · have n1 := (var i (by omega)).1
    have n2 := (var j (by omega)).1
    have ex : (saveN M s.2)[j]? = some ((saveN M s.2).getD j nZ) := by rw [List.getD_eq_getElem?_getD, List.getElem?_eq_getElem hj]; rfl
    have ey : (saveN M s.2)[i]? = some ((saveN M s.2).getD j nZ) := by
      rw [← show (saveN M s.2).getD i nZ = (saveN M s.2).getD j nZ from Prod.ext (by omega) e2, List.getD_eq_getElem?_getD, List.getElem?_eq_getElem hi]; rfl
    exact (v.node_at h ex).2.2.2 i ey
  · have hi' : i < fs.length := by rw [← a.len]; exact hi
    have := a.root i fs[i] (List.getElem?_eq_getElem hi')
    rw [List.getD_eq_getElem?_getD, this]
    by_cases c : M.valid fs[i] = true
    · right
      rw [if_pos c]
      refine ⟨_, rfl, ?_⟩
      obtain ⟨n, hn, sn, _⟩ := Mgr.valid_nat h c
      rw [lN]
      have low : ∀ g, g < 2 → g ∉ s.2 := fun g hg hm => by have := (v.st g hm).2; omega
      rw [hs]
      rcases Nat.lt_or_ge fs[i].toNat 2 with x | x
      · rw [code0_low x (low _ x)]; omega
      · have hm := a.mem fs[i] (List.getElem_mem hi') c x
        rw [hs] at hm
        obtain ⟨k, hk⟩ := List.mem_iff_getElem?.1 hm
        have := (List.getElem?_eq_some_iff.1 hk).1
        rw [code0_at v.nodup hk]; omega
    · rw [if_neg c]
      exact .inl (by decide)

/-- What has been counted when j nodes are there. -/
def kidL (N : List Nd) (j : Nat) : List Nat := (N.take j).flatMap kidsN
theorem kidL_succ {N : List Nd} {j : Nat} (h : j < N.length) : kidL N (j + 1) = kidL N j ++ [(N.getD j nZ).2.1] ++ [(N.getD j nZ).2.2] := by
  unfold kidL
  rw [List.take_succ_eq_append_getElem h, List.flatMap_append, List.getD_eq_getElem?_getD, List.getElem?_eq_getElem h, List.append_assoc]
  rfl
theorem kidL_lt {o : List Nat} {N : List Nd} {R : List Int} (k : NkOk o N R) : ∀ j, j ≤ N.length → ∀ i, i ∈ kidL N j → i < j + 1
  | 0, _, i, h => by cases h
  | j + 1, hj, i, h => by
    rw [kidL_succ (by omega)] at h
    obtain ⟨k1, k2⟩ := k.kid j (by omega)
    rcases List.mem_append.1 h with h | h
    · rcases List.mem_append.1 h with h | h
      · have := kidL_lt k j (by omega) i h; omega
      · rw [List.mem_singleton.1 h]; omega
    · rw [List.mem_singleton.1 h]; omega
theorem kidL_len (N : List Nd) : ∀ j, j ≤ N.length → (kidL N j).length = 2 * j
  | 0, _ => rfl
  | j + 1, hj => by
    rw [kidL_succ (by omega), List.length_append, List.length_append, kidL_len N j (by omega)]
    simp
    omega
theorem mkD_inc (o : List Nat) (N : List Nd) (j : Nat) (l : List Nat) (i : Nat) : ({ mkD o N j l with rf := putN (countF l) i (countF l i + 1) } : Dg) = mkD o N j (l ++ [i]) := by
  rw [countF_snoc]; rfl
theorem mkD_cell {o : List Nat} {N : List Nd} {j : Nat} {l : List Nat} (hl : ∀ i, i ∈ l → i < j + 2) : ({ mkD o N j l with len := j + 3 } : Dg).cells = (mkD o N j l).cells ++ [.int .i64 (N.getD j nZ).1, .int .i64 ((N.getD j nZ).2.1 : Int), .int .i64 ((N.getD j nZ).2.2 : Int), .int .i64 0] := by
  show ((List.range (j + 2 + 1)).flatMap fun i => celV ((mkD o N j l).nd i) (countF l i)) = _
  rw [List.range_succ, List.flatMap_append]
  congr 1
  rw [List.flatMap_cons, List.flatMap_nil, List.append_nil]
  have e : countF l (j + 2) = 0 := by
    unfold countF
    rw [List.count_eq_zero.2 (fun h => by have := hl _ h; omega)]; rfl
  rw [e]
  show celV (if j + 2 < 2 then nZ else N.getD (j + 2 - 2) nZ) 0 = _
  rw [if_neg (by omega), Nat.add_sub_cancel]; rfl
theorem mkD_tab (o : List Nat) (N : List Nd) (j : Nat) (l : List Nat) : ({ mkD o N j l with len := j + 3, tab := updT (tabN N j) (N.getD j nZ).1.toNat (((N.getD j nZ).2.1 : Int), ((N.getD j nZ).2.2 : Int)) (some (j + 2)) } : Dg) = mkD o N (j + 1) l := rfl
theorem mkD_none {o : List Nat} {N : List Nd} {R : List Int} (k : NkOk o N R) {j : Nat} (hj : j < N.length) : tabN N j (N.getD j nZ).1.toNat (((N.getD j nZ).2.1 : Int), ((N.getD j nZ).2.2 : Int)) = none := by
  cases h : tabN N j (N.getD j nZ).1.toNat (((N.getD j nZ).2.1 : Int), ((N.getD j nZ).2.2 : Int)) with
  | none => rfl
  | some i =>
    exfalso
    obtain ⟨h1, h2, h3, h4⟩ := (tabN_iff k.inj _ _ i j (by omega)).1 h
    rw [Prod.mk.injEq] at h4
    have := k.inj (i - 2) j (by omega) hj h3 (Prod.ext (by have := h4.1; omega) (by have := h4.2; omega))
    omega

/-! ### the diagram of the call's own, and the rows of nodes and roots -/
structure NwJ (w : World) (d : Nat) (nv rv : Value) (N : List Nd) (R : List Int) (bs : List (Nat × Obj)) (x : World) (D : Dg) (L : DLay) : Prop where
  rep : DRep x d D L
  kp : Kp No w x
  own : ∀ k, L.at d k → w.heap.size ≤ k
  nr : x.ownsRow w.heap.size 96 3 nv N.length (N.flatMap ndCells)
  rr : x.ownsRow w.heap.size 3 1 rv R.length (R.map intV)
  off : ∀ k, (nv.ownBlock = some k ∨ rv.ownBlock = some k) → ¬ L.at d k
  bx : ∀ q, q ∈ bs → x.heap[q.1]? = some q.2 ∧ ¬ L.at d q.1
section
variable {w x z : World} {d : Nat} {nv rv : Value} {N : List Nd} {R : List Int} {D : Dg} {L : DLay} {bs : List (Nat × Obj)}
theorem NwJ.no (s : NwJ w d nv rv N R bs x D L) (k : Kp No x z) : NwJ w d nv rv N R bs z D L :=
  ⟨s.rep.no k, s.kp.trans_no k, s.own, ownsRow_kp s.nr k (fun _ _ h => h), ownsRow_kp s.rr k (fun _ _ h => h), s.off, fun q hq => ⟨by rw [k.block q.1 (heap_lt (s.bx q hq).1) (fun h => h)]; exact (s.bx q hq).1, (s.bx q hq).2⟩⟩
theorem NwJ.sub {bs' : List (Nat × Obj)} (s : NwJ w d nv rv N R bs x D L) (h : ∀ q, q ∈ bs' → q ∈ bs) : NwJ w d nv rv N R bs' x D L := ⟨s.rep, s.kp, s.own, s.nr, s.rr, s.off, fun q hq => s.bx q (h q hq)⟩
theorem NwJ.push (s : NwJ w d nv rv N R bs x D L) (o : Obj) : NwJ w d nv rv N R ((x.heap.size, o) :: bs) (x.alloc o) D L := by
  have t := s.no (Kp.alloc o)
  refine ⟨t.rep, t.kp, t.own, t.nr, t.rr, t.off, fun q hq => ?_⟩
  rcases List.mem_cons.1 hq with rfl | hq
  · refine ⟨heap_alloc_new _ _, fun h => ?_⟩
    have := s.rep.lt _ h
    omega
  · exact t.bx q hq
theorem NwJ.stepL {D2 : Dg} {L2 : DLay} {A : Nat → Prop} (s : NwJ w d nv rv N R bs x D L) (r : DRep z d D2 L2) (k : Kp A x z) (hA : ∀ a, A a → L.at d a) (hf : ∀ a, L2.at d a → L.at d a ∨ x.heap.size ≤ a) : NwJ w d nv rv N R bs z D2 L2 := by
  refine ⟨r, (s.kp.trans (A' := A) (fun a ha => .inr (s.own a (hA a ha))) k), fun a ha => ?_, ownsRow_kp s.nr k (fun b hb h => s.off b (.inl hb) (hA b h)), ownsRow_kp s.rr k (fun b hb h => s.off b (.inr hb) (hA b h)), fun b hb h => ?_, fun q hq => ⟨by rw [k.block q.1 (heap_lt (s.bx q hq).1) (fun h => (s.bx q hq).2 (hA _ h))]; exact (s.bx q hq).1, fun h => ?_⟩⟩
  · rcases hf a ha with h | h
    · exact s.own a h
    · have := s.kp.size; omega
  · rcases hf b h with h | h
    · exact s.off b hb h
    · rcases hb with hb | hb
      · have := (s.nr.lt b hb).2; omega
      · have := (s.rr.lt b hb).2; omega
  · rcases hf q.1 h with h | h
    · exact (s.bx q hq).2 h
    · have := heap_lt (s.bx q hq).1; omega
theorem NwJ.step {D2 : Dg} {A : Nat → Prop} (s : NwJ w d nv rv N R bs x D L) (r : DRep z d D2 L) (k : Kp A x z) (hA : ∀ a, A a → L.at d a) : NwJ w d nv rv N R bs z D2 L := s.stepL r k hA (fun _ h => .inl h)
/-- A cell is added. -/
theorem NwJ.cell {o : List Nat} {j g g' cap cap' : Nat} {l : List Nat} {A' w1 : World} (s : NwJ w d nv rv N R bs x (mkD o N j l) L) (hl : ∀ i, i ∈ l → i < j + 2) (hsc : L.sc = .slice (some ⟨g, 0, none⟩) (j + 2) cap) (kA : Kp No x A')
    (hown : w1.ownsRow 0 131 4 (.slice (some ⟨g', 0, none⟩) (j + 2 + 1) cap') (j + 2 + 1) ((mkD o N j l).cells ++ [.int .i64 (N.getD j nZ).1, .int .i64 ((N.getD j nZ).2.1 : Int), .int .i64 ((N.getD j nZ).2.2 : Int), .int .i64 0]))
    (hgrow : A'.grownBy w1 (Value.slice (some ⟨g, 0, none⟩) (j + 2) cap).ownBlock) (hat : (Value.slice (some ⟨g, 0, none⟩) (j + 2) cap).ownBlock = some g' ∨ x.heap.size ≤ g') :
    NwJ w d nv rv N R bs (w1.setCell ⟨d, 1, none⟩ (.slice (some ⟨g', 0, none⟩) (j + 2 + 1) cap')) { mkD o N j l with len := j + 3 } { L with sc := .slice (some ⟨g', 0, none⟩) (j + 2 + 1) cap' } := by
  have kg : Kp (fun k => L.sc.ownBlock = some k) x w1 := by rw [hsc]; exact grown_no kA hgrow
  have r := s.rep.pushC (D' := { mkD o N j l with len := j + 3 }) kg (by rw [mkD_cell hl]; exact hown) rfl rfl rfl rfl
  have kk : Kp (fun k => L.sc.ownBlock = some k ∨ k = d) x (w1.setCell ⟨d, 1, none⟩ (.slice (some ⟨g', 0, none⟩) (j + 2 + 1) cap')) :=
    (kg.mono (fun _ _ h => .inl h)).trans (A' := fun k => L.sc.ownBlock = some k ∨ k = d) (fun _ h => .inl h) ((Kp.setCell _ _).mono (fun _ _ e => .inr e))
  refine s.stepL r kk (fun k h => ?_) (fun k h => ?_)
  · rcases h with h | h
    · exact .inr (.inr (.inl h))
    · exact .inl h
  · rcases h with h | h | h | h | h | h
    · exact .inl (.inl h)
    · exact .inl (.inr (.inl h))
    · have hg : g' = k := by simpa [Value.ownBlock] using h
      rcases hat with hat | hat
      · exact .inl (.inr (.inr (.inl (by rw [hsc, ← hg]; exact hat))))
      · exact .inr (by omega)
    · exact .inl (.inr (.inr (.inr (.inl h))))
    · exact .inl (.inr (.inr (.inr (.inr (.inl h)))))
    · exact .inl (.inr (.inr (.inr (.inr (.inr h)))))
/-- An entry is put in. -/
theorem NwJ.tabset (s : NwJ w d nv rv N R bs x D L) {v : Nat} (hv : v < D.order.length) (p : Pair) (ht : D.tab v p = none) (r : Nat) :
    ∃ w3, (∀ n, (Instr.mapUpdate 115 (.map (some (L.tb.getD v 0))) (pairV p) (.int .i64 (r : Int))).run Tryz.prog (x.drewN n) = .ok () (w3.drewN n)) ∧ NwJ w d nv rv N R bs w3 { D with tab := updT D.tab v p (some r) } L := by
  obtain ⟨l, hM, hl⟩ := s.rep.maps v hv
  have hn : lk l p = none := by rw [hl, ht]
  obtain ⟨w3, h1, h2, h3, _⟩ := hM.push keyKids Tryz.underlying115 p r hn
  refine ⟨w3, h1, s.step (s.rep.setM hv h3 h2 (fun q => ?_) (fun u hu => updT_other hu) rfl rfl rfl rfl rfl rfl) h3 (fun k e => .inr (.inr (.inr (.inr (.inr (by rw [e]; exact s.rep.tb_mem hv))))))⟩
  rw [lk_append l p q r hn, hl]
  exact (updT_same q).symm
/-- One more reference. -/
theorem NwJ.inc {o : List Nat} {j i : Nat} {l : List Nat} (s : NwJ w d nv rv N R bs x (mkD o N j l) L) {g cap : Nat} (hs : L.sc = .slice (some ⟨g, 0, none⟩) (j + 2) cap) (hi : i < j + 2) :
    NwJ w d nv rv N R bs (x.setCell ⟨g, i * 4 + 3, none⟩ (.int .i64 (((l.count i : Nat) : Int) + 1))) (mkD o N j (l ++ [i])) L := by
  have r := s.rep.rfset (i := i) hs hi (((l.count i : Nat) : Int) + 1)
  rw [show ({ mkD o N j l with rf := putN (mkD o N j l).rf i (((l.count i : Nat) : Int) + 1) } : Dg) = mkD o N j (l ++ [i]) from mkD_inc o N j l i] at r
  exact s.step r (scKp hs _ _ _) (fun _ e => .inr (.inr (.inl e)))
end

/-! ### the table is made -/
structure NwR (w : World) (d : Nat) (nv rv : Value) (N : List Nd) (R : List Int) (o : List Nat) (t : Nat) (x : World) (L : DLay) : Prop where
  blk : x.heap[d]? = some (.cells #[L.so, L.sc, L.st, .slice none 0 0, .int .i64 (N.length : Int)] 114 (0, 0))
  order : x.ownsRow w.heap.size 3 1 L.so o.length (o.map natV)
  cells : x.ownsRow w.heap.size 131 4 L.sc 2 (mkD o N 0 []).cells
  table : x.ownsRow w.heap.size 115 1 L.st t (L.tb.map fun b => Value.map (some b))
  tl : L.tb.length = t
  tn : L.tb.Nodup
  maps : ∀ b, b ∈ L.tb → MapL x b pairV natV [] ∧ w.heap.size ≤ b
  dge : w.heap.size ≤ d
  kp : Kp No w x
  nr : x.ownsRow w.heap.size 96 3 nv N.length (N.flatMap ndCells)
  rr : x.ownsRow w.heap.size 3 1 rv R.length (R.map intV)
  ne : ∀ k, L.so.ownBlock = some k → rv.ownBlock ≠ some k
section
variable {w x z : World} {d : Nat} {nv rv : Value} {N : List Nd} {R : List Int} {o : List Nat} {t : Nat} {L : DLay}
theorem NwR.c2 (s : NwR w d nv rv N R o t x L) : x.cell? ⟨d, 2, none⟩ = some L.st ∧ d < x.heap.size ∧ x.frozen? ⟨d, 2, none⟩ = false ∧ L.st.ownBlock ≠ some d :=
  ⟨by simp [World.cell?, s.blk], heap_lt s.blk, by simp [World.frozen?, s.blk], fun hk => by
    obtain ⟨cur, hb⟩ := ownsRow_block s.table hk
    rw [s.blk] at hb
    cases hb⟩
theorem NwR.c0 (s : NwR w d nv rv N R o t x L) : x.cell? ⟨d, 0, none⟩ = some L.so := by simp [World.cell?, s.blk]
theorem NwR.lt (s : NwR w d nv rv N R o t x L) {b : Nat} (hb : b ∈ L.tb) : b < x.heap.size ∧ ∃ es c, x.heap[b]? = some (.map es c) := by
  obtain ⟨⟨Z, c, h, _⟩, _⟩ := s.maps b hb
  exact ⟨heap_lt h, _, c, h⟩
/-- One more map. -/
theorem NwR.step {y1 w1 : World} {v : Value} (s : NwR w d nv rv N R o t x L) (k1 : Kp No x y1) (hm : MapL y1 x.heap.size pairV natV []) (hgrow : y1.grownBy w1 L.st.ownBlock)
    (hown : w1.ownsRow w.heap.size 115 1 v (t + 1) ((L.tb.map fun b => Value.map (some b)) ++ [.map (some x.heap.size)])) :
    NwR w d nv rv N R o (t + 1) (w1.setCell ⟨d, 2, none⟩ v) { L with st := v, tb := L.tb ++ [x.heap.size] } := by
  have kg : Kp (fun k => L.st.ownBlock = some k) x w1 := grown_no k1 hgrow
  have kd : Kp (fun k => L.st.ownBlock = some k ∨ k = d) x (w1.setCell ⟨d, 2, none⟩ v) :=
    (kg.mono (fun _ _ h => .inl h)).trans (A' := fun k => L.st.ownBlock = some k ∨ k = d) (fun _ h => .inl h) ((Kp.setCell _ _).mono (fun _ _ e => .inr e))
  have hd : w1.heap[d]? = some (.cells #[L.so, L.sc, L.st, .slice none 0 0, .int .i64 (N.length : Int)] 114 (0, 0)) := by
    rw [kg.block d (heap_lt s.blk) s.c2.2.2.2]; exact s.blk
  have rowd : ∀ {e sz n : Nat} {u : Value} {xs : List Value}, x.ownsRow w.heap.size e sz u n xs → e ≠ 114 → e ≠ 115 → (w1.setCell ⟨d, 2, none⟩ v).ownsRow w.heap.size e sz u n xs := fun {e sz n u xs} h h1 h2 =>
    ownsRow_kp h kd (fun k hk hh => by
      rcases hh with hh | rfl
      · exact row_ne (row_zero h) (row_zero s.table) h2 hk hh
      · obtain ⟨cur, hb⟩ := ownsRow_block h hk
        rw [s.blk] at hb
        cases hb
        exact h1 rfl)
  have mk : ∀ b, x.heap.size ≤ b ∨ b ∈ L.tb → MapL w1 b pairV natV [] → MapL (w1.setCell ⟨d, 2, none⟩ v) b pairV natV [] := fun b hb h => h.kp (Kp.setCell _ _) (fun e => by
    have e : b = d := e
    obtain ⟨Z, c, h3, _⟩ := h
    rw [e, hd] at h3
    cases h3)
  have y1lt : x.heap.size < y1.heap.size := hm.lt
  refine ⟨?_, rowd s.order (by decide) (by decide), rowd s.cells (by decide) (by decide), ?_, by rw [List.length_append, s.tl]; rfl, ?_, fun b hb => ?_, s.dge, ?_, rowd s.nr (by decide) (by decide), rowd s.rr (by decide) (by decide), s.ne⟩
  · rw [setCell_heap hd]; rfl
  · rw [List.map_append]
    refine ownsRow_kp hown (Kp.setCell _ _) (fun k hk e => ?_)
    have e : k = d := e
    obtain ⟨cur, hb⟩ := ownsRow_block hown hk
    rw [e, hd] at hb
    cases hb
  · refine List.nodup_append.2 ⟨s.tn, by simp, fun a ha b hb e => ?_⟩
    rw [List.mem_singleton.1 hb] at e
    have := (s.lt ha).1
    omega
  · rcases List.mem_append.1 hb with hb | hb
    · obtain ⟨h1, h2⟩ := s.maps b hb
      refine ⟨mk b (.inr hb) (h1.kp kg (fun hk => ?_)), h2⟩
      obtain ⟨cur, h3⟩ := ownsRow_block s.table hk
      obtain ⟨_, es, c, h4⟩ := s.lt hb
      rw [h3] at h4
      cases h4
    · rw [List.mem_singleton.1 hb]
      refine ⟨mk _ (.inl (Nat.le_refl _)) (hm.kp (Kp.grown hgrow) (fun hk => ?_)), s.kp.size⟩
      have h5 : L.st.ownBlock = some x.heap.size := hk
      have := (s.table.lt _ h5).2
      omega
  · exact s.kp.trans (A' := fun k => L.st.ownBlock = some k ∨ k = d) (fun k hk => by
      rcases hk with hk | rfl
      · exact .inr (s.table.lt k hk).1
      · exact .inr s.dge) kd
theorem NwR.done (s : NwR w d nv rv N R o o.length x L) : NwJ w d nv rv N R [] x (mkD o N 0 []) { L with ss := .slice none 0 0 } := by
  have tbm : ∀ v, v < o.length → L.tb.getD v 0 ∈ L.tb := fun v hv => by
    rw [← s.tl] at hv
    rw [List.getD_eq_getElem?_getD, List.getElem?_eq_getElem hv]
    exact List.getElem_mem hv
  have rowm : ∀ {e sz n : Nat} {u : Value} {xs : List Value} {b : Nat}, x.ownsRow w.heap.size e sz u n xs → u.ownBlock = some b → b ∉ L.tb := fun {e sz n u xs b} h hk hb => by
    obtain ⟨cur, h3⟩ := ownsRow_block h hk
    obtain ⟨_, es, c, h4⟩ := s.lt hb
    rw [h3] at h4
    cases h4
  have rowd : ∀ {e sz n : Nat} {u : Value} {xs : List Value}, x.ownsRow w.heap.size e sz u n xs → e ≠ 114 → u.ownBlock ≠ some d := fun {e sz n u xs} h h1 hk => by
    obtain ⟨cur, hb⟩ := ownsRow_block h hk
    rw [s.blk] at hb
    cases hb
    exact h1 rfl
  refine ⟨⟨s.blk, row_zero s.order, row_zero s.cells, row_zero s.table, World.ownsRow_nil _ _ _ _, s.tl, s.tn, fun v hv => ⟨[], (s.maps _ (tbm v hv)).1, fun p => rfl⟩, fun k hk h => by cases h⟩, s.kp, fun k hk => ?_, s.nr, s.rr, fun k hk h => ?_, fun q h => (by cases h)⟩
  · rcases hk with rfl | h | h | h | h | h
    · exact s.dge
    · exact (s.order.lt k h).1
    · exact (s.cells.lt k h).1
    · exact (s.table.lt k h).1
    · cases h
    · exact (s.maps k h).2
  · rcases hk with hk | hk
    · rcases h with rfl | h | h | h | h | h
      · exact rowd s.nr (by decide) hk
      · exact row_ne (row_zero s.nr) (row_zero s.order) (by decide) hk h
      · exact row_ne (row_zero s.nr) (row_zero s.cells) (by decide) hk h
      · exact row_ne (row_zero s.nr) (row_zero s.table) (by decide) hk h
      · cases h
      · exact rowm s.nr hk h
    · rcases h with rfl | h | h | h | h | h
      · exact rowd s.rr (by decide) hk
      · exact s.ne k h hk
      · exact row_ne (row_zero s.rr) (row_zero s.cells) (by decide) hk h
      · exact row_ne (row_zero s.rr) (row_zero s.table) (by decide) hk h
      · cases h
      · exact rowm s.rr hk h
end
end Go.Proofs.YtngbodmooddjbaaGreat

namespace Go.Proofs.YtngbodmooddjbaaGreat
open Go.RowKit

/-- What 'newDiagram' leaves. -/
def NwPost (w : World) (M : Mgr) (fs : List Int) (e : Ending) (w' : World) : Prop :=
  ∃ d L, e = .returned (ptr d) ∧ DRep w' d (mkD M.order (saveN M (saveM M fs).1.2) (saveM M fs).1.2.length ((saveN M (saveM M fs).1.2).flatMap kidsN ++ rsN (saveM M fs).2)) L ∧ Kp No w w' ∧ ∀ k, L.at d k → w.heap.size ≤ k

theorem info_mpT : (Tryz.prog.info? 115).map (fun i => (i.zero, i.size, i.bytes)) = some (some (.map none), 1, 8) := by kernel_rfl
theorem heap_alloc2 (w : World) (o o2 : Obj) : ((w.alloc o).alloc o2).heap[w.heap.size + 1]? = some o2 := by
  have := heap_alloc_new (w.alloc o) o2
  rwa [show (w.alloc o).heap.size = w.heap.size + 1 by simp] at this
/-- The two constants. -/
theorem NwR.start {w w1 w2 : World} {nv rv ov : Value} {N : List Nd} {R : List Int} {o : List Nat} (K1 : Kp No w w1) (K2 : Kp No w1 w2) (NR : w1.ownsRow w.heap.size 96 3 nv N.length (N.flatMap ndCells)) (RR : w1.ownsRow w.heap.size 3 1 rv R.length (R.map intV)) (OR : w2.ownsRow w1.heap.size 3 1 ov o.length (o.map natV)) :
    NwR w (w2.heap.size + 1) nv rv N R o 0 ((w2.alloc (.cells #[.int .i64 (-1), .int .i64 0, .int .i64 0, .int .i64 0, .int .i64 (-1), .int .i64 0, .int .i64 0, .int .i64 0] 131)).alloc (.cells #[ov, .slice (some ⟨w2.heap.size, 0, none⟩) 2 2, .slice none 0 0, .slice none 0 0, .int .i64 (N.length : Int)] 114)) { so := ov, sc := .slice (some ⟨w2.heap.size, 0, none⟩) 2 2, st := .slice none 0 0, ss := .slice none 0 0, tb := [] } := by
  have s1 := K1.size
  have s2 := K2.size
  have e : (w2.alloc (.cells #[.int .i64 (-1), .int .i64 0, .int .i64 0, .int .i64 0, .int .i64 (-1), .int .i64 0, .int .i64 0, .int .i64 0] 131)).heap.size = w2.heap.size + 1 := by simp
  have ka : ∀ (y : World) (o : Obj), Kp No y (y.alloc o) := fun y o => Kp.alloc _
  have h1 := heap_alloc_new w2 (.cells #[.int .i64 (-1), .int .i64 0, .int .i64 0, .int .i64 0, .int .i64 (-1), .int .i64 0, .int .i64 0, .int .i64 0] 131)
  refine ⟨?_, ?_, ?_, World.ownsRow_nil _ _ _ _, rfl, List.nodup_nil, fun b h => (by cases h), by omega, ((K1.trans_no K2).trans_no (ka _ _)).trans_no (ka _ _), ?_, ?_, fun k hk h => ?_⟩
  · rw [← e]; exact heap_alloc_new _ _
  · exact ownsRow_kp (ownsRow_kp (ownsRow_mono OR s1) (ka _ _) (fun _ _ h => h)) (ka _ _) (fun _ _ h => h)
  · refine ownsRow_kp (w := w2.alloc (.cells #[.int .i64 (-1), .int .i64 0, .int .i64 0, .int .i64 0, .int .i64 (-1), .int .i64 0, .int .i64 0, .int .i64 0] 131)) ⟨Dg.cells_len _, .inr ⟨w2.heap.size, 2, _, rfl, by omega, h1, Nat.le_refl _, by rw [maxLen_val]; omega, rfl, rfl⟩⟩ (ka _ _) (fun _ _ h => h)
  · exact ownsRow_kp (ownsRow_kp (ownsRow_kp NR K2 (fun _ _ h => h)) (ka _ _) (fun _ _ h => h)) (ka _ _) (fun _ _ h => h)
  · exact ownsRow_kp (ownsRow_kp (ownsRow_kp RR K2 (fun _ _ h => h)) (ka _ _) (fun _ _ h => h)) (ka _ _) (fun _ _ h => h)
  · have q1 := (OR.lt k hk).1
    have q2 := (RR.lt k h).2
    omega

set_option maxRecDepth 1000000 in
set_option maxHeartbeats 16000000 in
theorem NewDiagram_ok {p : Nat} {M : Mgr} {L0 : Lay} (fs : List Int) {fsv : Value} {w : World} (RP : Rep w p M L0) (hfs : SrcAt w fsv 1 fs.length (fs.map intV)) (hfl : fs.length ≤ 1000000) (hnl : M.nodes.length ≤ 1000000000) (hn : M.n ≤ 256) :
    Calls Tryz.prog 68 #[ptr p, fsv] w (NwPost w M fs) := by
  obtain ⟨i0, hi0, hz0, hz1, hz2⟩ := info_parts info_cel
  obtain ⟨j0, hj0, hy0, hy1, hy2⟩ := info_parts info_mpT
  have hmm := @run_makeMap Tryz.prog
  have SAV := Lib.hid (Save_ok fs RP hfs hfl (by unfold big; omega))
  have ORD : Hid (∀ y, Kp No w y → Calls Tryz.prog 23 #[ptr p] y (NatsPost y M.order)) := Lib.hid (fun y k => Order_ok (RP.no k) hn)
  have NK := Lib.hid (nk_of RP.wf fs)
  have HNL : Hid ((saveN M (saveM M fs).1.2).length ≤ 1000000000 ∧ (saveM M fs).2.length ≤ 1000000 ∧ (saveN M (saveM M fs).1.2).length = (saveM M fs).1.2.length ∧ M.order.length ≤ 256) := Lib.hid (by
    have h1 := (saveM_seen RP.wf fs).len RP.wf
    have h2 := saveN_len M (saveM M fs).1.2
    have h3 := saveM_len M fs
    exact ⟨by omega, by omega, h2, hn⟩)
  obtain ⟨ao, c, rfl⟩ := hfs.form
  have FIN : Hid (∀ d L x, DRep x d (mkD M.order (saveN M (saveM M fs).1.2) (saveN M (saveM M fs).1.2).length (kidL (saveN M (saveM M fs).1.2) (saveN M (saveM M fs).1.2).length ++ rsN (saveM M fs).2)) L → Kp No w x → (∀ k, L.at d k → w.heap.size ≤ k) → NwPost w M fs (.returned (ptr d)) x) := Lib.hid (fun d L x r k o =>
    ⟨d, L, rfl, by rw [HNL.out.2.2.1] at r; unfold kidL at r; rw [List.take_of_length_le (by rw [HNL.out.2.2.1]; exact Nat.le_refl _)] at r; exact r, k, o⟩)
  clear RP hfs hnl hn
  generalize saveN M (saveM M fs).1.2 = N at *
  generalize (saveM M fs).2 = R at *
  generalize hMo : M.order = o at *
  clear hMo
  go_enter Tryz.func68, Tryz.ntmps68
  go_wp2_with fail
  refine SAV.out.mono ?_
  rintro e w1 ⟨nv, rv, rfl, nrow, rrow, k1⟩
  have OC := Lib.hid (ORD.out w1 k1)
  obtain ⟨an, cn, rfl, _⟩ := ownsRow_len (row_zero nrow)
  obtain ⟨ar, cr, rfl, _⟩ := ownsRow_len (row_zero rrow)
  have NR := Lib.hid nrow
  have RR := Lib.hid rrow
  have K1 := Lib.hid k1
  clear nrow rrow k1 SAV ORD
  go_wp2_with fail
  refine OC.out.mono ?_
  rintro e w2 ⟨ov, rfl, orow, k2⟩
  obtain ⟨aov, cov, rfl, _⟩ := ownsRow_len (row_zero orow)
  have OR := Lib.hid orow
  have K2 := Lib.hid k2
  clear orow k2 OC
  go_upto_region 3 with fail
  have J0 := Lib.hid (NwR.start K1.out K2.out NR.out RR.out OR.out)
  have e2 : World.cell? _ _ = some (Value.slice aov o.length cov) := J0.out.c0
  have plt := heap_lt J0.out.blk
  generalize hd : w2.heap.size + 1 = d at *
  generalize ((w2.alloc (.cells #[.int .i64 (-1), .int .i64 0, .int .i64 0, .int .i64 0, .int .i64 (-1), .int .i64 0, .int .i64 0, .int .i64 0] 131)).alloc (.cells #[.slice aov o.length cov, .slice (some ⟨w2.heap.size, 0, none⟩) 2 2, .slice none 0 0, .slice none 0 0, .int .i64 (N.length : Int)] 114)) = W3 at *
  generalize ({ so := .slice aov o.length cov, sc := .slice (some ⟨w2.heap.size, 0, none⟩) 2 2, st := .slice none 0 0, ss := .slice none 0 0, tb := [] } : DLay) = LA at *
  clear hd NR RR K1 K2 OR
  have ho : o.length ≤ 256 := HNL.out.2.2.2
  go_wp2
  go_loopg [33] o.length (fun gk s z => ∃ (t : Nat) (L : DLay), t + gk = o.length ∧ s = .int .i64 (t : Int) ∧ NwR w d (.slice an N.length cn) (.slice ar R.length cr) N R o t z L)
  case atStart => exact ⟨0, LA, by omega, rfl, J0.out⟩
  case round =>
    clear J0 plt e2
    obtain ⟨t, L, ht, rfl, s⟩ := hrel
    have HT := Lib.hid ht
    have S0 := Lib.hid s
    by_cases hlt : t < o.length
    · have hlti : (t : Int) < o.length := by omega
      obtain ⟨c2, plt, z2, hne⟩ := s.c2
      have own := s.table
      obtain ⟨at_, ct, hst, _⟩ := ownsRow_len (row_zero own)
      rw [hst] at c2 own hne
      have hsz := s.kp.size
      have HST := Lib.hid hst
      clear s ht hst
      go_wp2_with (at_builtin; refine wpList_append_lies _ rfl (.tmp 39) (.tmp 41) _ rfl w.heap.size 115 j0 _ 1 8 Tryz.underlying112 hj0 hy0 hy1 hy2 rfl (by omega) (.slice at_ t ct) t (L.tb.map fun b => Value.map (some b)) rfl ((own.alloc _).alloc _) ⟨wr.heap.size + 1, 0, none⟩ 1 1 [.map (some wr.heap.size)] rfl rfl (World.news_of_block (heap_alloc2 _ _ _)) (by simp [Value.oneCell']) (by omega) (by unfold maxLen; omega) (by omega) (by simp; omega) (wr.heap.size + 1 + 1) (by simp) ?_; intro g' cap' A2 hown hgrow hat hlt2; have q2 : A2.cell? ⟨d, 2, none⟩ = some (.slice at_ t ct) := (hgrow.cell_far ⟨d, 2, none⟩ (by simp; omega) (fun e => hne e.symm)).trans ((World.cell?_alloc_lt _ _ _ (by simp; omega)).trans ((World.cell?_alloc_lt _ _ _ plt).trans c2)); have q3 : A2.frozen? ⟨d, 2, none⟩ = false := (hgrow.frozen_far ⟨d, 2, none⟩ (by simp; omega) (fun e => hne e.symm)).trans ((World.frozen?_alloc_old _ _ _ (by simp; omega)).trans ((World.frozen?_alloc_old _ _ _ (by simp; omega)).trans z2)))
      have JN : Hid (NwR w d (.slice an N.length cn) (.slice ar R.length cr) N R o (t + 1) (A2.setCell ⟨d, 2, none⟩ (.slice (some ⟨g', 0, none⟩) (t + 1) cap')) { L with st := .slice (some ⟨g', 0, none⟩) (t + 1) cap', tb := L.tb ++ [wr.heap.size] }) := Lib.hid (S0.out.step ((Kp.alloc _).trans_no (Kp.alloc _)) ((MapL.empty wr pairV natV).kp (Kp.alloc _) (fun h => h)) (by rw [HST.out]; exact hgrow) hown)
      clear hown hgrow hat hlt2 own
      go_wp2
      go_roundg (o.length - (t + 1))
      case measure => have := HT.out; omega
      case rel => exact ⟨t + 1, _, by omega, rfl, JN.out⟩
    · obtain rfl : t = o.length := by omega
      have hge : ¬ (o.length : Int) < o.length := by omega
      have J1 := Lib.hid s.done
      clear s S0 ht hlt
      go_wp2
      go_loopg [48] N.length (fun gk s z => ∃ (j : Nat) (L : DLay), j + gk = N.length ∧ s = .int .i64 (j : Int) ∧ NwJ w d (.slice an N.length cn) (.slice ar R.length cr) N R [] z (mkD o N j (kidL N j)) L)
      case atStart => exact ⟨0, _, by omega, rfl, J1.out⟩
      case round =>
        clear J1
        obtain ⟨j, L, hj, rfl, s⟩ := hrel
        have HJ := Lib.hid hj
        have S0 := Lib.hid s
        have hN := HNL.out.1
        by_cases hlt : j < N.length
        · have hlti : (j : Int) < N.length := by omega
          obtain ⟨gn, capn, hvn, q1, q2, q3, hcn, q4⟩ := ownsRow_open (row_zero s.nr) (by omega)
          cases hvn
          obtain ⟨x, hx⟩ : ∃ x, N.getD j nZ = x := ⟨_, rfl⟩
          have hxj : N[j]? = some x := by rw [← hx, List.getD_eq_getElem?_getD, List.getElem?_eq_getElem hlt]; rfl
          have d0 := hcn (j * 3) _ (ndCells_get N j 0 x hxj (by omega))
          have d1 := hcn (j * 3 + 1) _ (ndCells_get N j 1 x hxj (by omega))
          have d2 := hcn (j * 3 + 2) _ (ndCells_get N j 2 x hxj (by omega))
          have gnlt := World.block_lt_of_cell? _ _ d0
          have VAR := Lib.hid (NK.out.var j hlt)
          have KID := Lib.hid (NK.out.kid j hlt)
          rw [hx] at VAR KID
          have HX := Lib.hid hx
          obtain ⟨xv, lo, hi⟩ := x
          obtain ⟨v, rfl⟩ := Int.eq_ofNat_of_zero_le VAR.out.1
          have d0 : wr.cell? ⟨gn, j * 3, none⟩ = some (.int .i64 (v : Int)) := d0
          have d1 : wr.cell? ⟨gn, j * 3 + 1, none⟩ = some (.int .i64 (lo : Int)) := d1
          have d2 : wr.cell? ⟨gn, j * 3 + 2, none⟩ = some (.int .i64 (hi : Int)) := d2
          have hvo : v < o.length := VAR.out.2
          have hlo : lo < j + 2 := KID.out.1
          have hhi : hi < j + 2 := KID.out.2
          have Q1 := Lib.hid ((S0.out.push (.cells #[.int .i64 (v : Int), .int .i64 (lo : Int), .int .i64 (hi : Int)] 96 (0, 0))).push (.cells #[.int .i64 (lo : Int), .int .i64 (hi : Int)] 129 (0, 0)))
          clear s hj q1 q2 q3 q4 hcn hxj hx S0
          go_upto_region 11 with fail
          rw [show (wr.alloc (.cells #[.int .i64 (v : Int), .int .i64 (lo : Int), .int .i64 (hi : Int)] 96)).heap.size = wr.heap.size + 1 by simp] at Q1
          generalize ((wr.alloc (.cells #[.int .i64 (v : Int), .int .i64 (lo : Int), .int .i64 (hi : Int)] 96)).alloc (.cells #[.int .i64 (lo : Int), .int .i64 (hi : Int)] 129)) = A at *
          obtain ⟨b10, hb10⟩ : ∃ b, wr.heap.size + 1 = b := ⟨_, rfl⟩
          obtain ⟨b9, hb9⟩ : ∃ b, wr.heap.size = b := ⟨_, rfl⟩
          rw [hb10] at Q1 ⊢
          rw [hb9] at Q1 ⊢
          clear hb10 hb9 d0 d1 d2 gnlt
          -- the cell
          obtain ⟨g, cap, hs, q1, hcm, _, _⟩ := Q1.out.rep.cel (by show 0 < j + 2; omega)
          replace hs : L.sc = .slice (some ⟨g, 0, none⟩) (j + 2) cap := hs
          have c1 := Q1.out.rep.c1
          have z1 := Q1.out.rep.fz 1
          have oA := Q1.out.rep.cells
          rw [hs] at c1 oA
          replace oA : A.ownsRow 0 131 4 (.slice (some ⟨g, 0, none⟩) (j + 2) cap) (j + 2) (mkD o N j (kidL N j)).cells := oA
          have hdg : d ≠ g := fun e => Q1.out.rep.row_d Q1.out.rep.cells (by decide) (by rw [hs, e]; rfl)
          have HS := Lib.hid hs
          have x10 := (Q1.out.bx _ (.head _)).1
          have x9 := (Q1.out.bx _ (.tail _ (.head _))).1
          have f0 : A.cell? ⟨b9, 0, none⟩ = some (.int .i64 (v : Int)) := by simp [World.cell?, x9]
          have f1 : A.cell? ⟨b10, 0, none⟩ = some (.int .i64 (lo : Int)) := by simp [World.cell?, x10]
          have f2 : A.cell? ⟨b10, 1, none⟩ = some (.int .i64 (hi : Int)) := by simp [World.cell?, x10]
          have l9 := heap_lt x9
          have l10 := heap_lt x10
          have plt := heap_lt Q1.out.rep.blk
          clear hs x9 x10 q1 hcm
          go_cut [] (fun y => ∃ L', NwJ w d (.slice (some ⟨gn, 0, none⟩) N.length cn) (.slice ar R.length cr) N R [(b10, .cells #[.int .i64 (lo : Int), .int .i64 (hi : Int)] 129 (0, 0)), (b9, .cells #[.int .i64 (v : Int), .int .i64 (lo : Int), .int .i64 (hi : Int)] 96 (0, 0))] y { mkD o N j (kidL N j) with len := j + 3 } L')
          case first =>
            go_region_law ((refine step_append_lies _ (by rfl) _ _ _ (by rfl) 0 131 i0 _ 4 32 Tryz.underlying111 hi0 hz0 hz1 hz2 rfl (by omega) _ (j + 2) (mkD o N j (kidL N j)).cells (by rfl) ((oA.drew).alloc _) ⟨A.heap.size, 0, none⟩ 1 1 [.int .i64 (v : Int), .int .i64 (lo : Int), .int .i64 (hi : Int), .int .i64 0] (by rfl) rfl (World.news_of_block (heap_alloc_new _ _)) (by simp [Value.oneCell']) (by omega) (by unfold maxLen; omega) (by omega) (by omega) (A.heap.size + 1) (by simp) ?_; intro g' cap' w3 hown hgrow hat hlt; have q2 : w3.cell? ⟨d, 1, none⟩ = some (.slice (some ⟨g, 0, none⟩) (j + 2) cap) := (hgrow.cell_far ⟨d, 1, none⟩ (by simp; omega) (fun e => hdg (Option.some.inj e))).trans ((World.cell?_alloc_lt _ _ _ plt).trans c1); have q3 : w3.frozen? ⟨d, 1, none⟩ = false := (hgrow.frozen_far ⟨d, 1, none⟩ (by simp; omega) (fun e => hdg (Option.some.inj e))).trans ((World.frozen?_alloc_old _ _ _ (by simp; omega)).trans z1)))
            all_goals
              go_wp2_with fail
              go_meet
              case rel => exact ⟨_, Q1.out.cell (fun i h => by have := kidL_lt NK.out j (by omega) i h; omega) HS.out (by first | exact (Kp.alloc _).trans_no Kp.drew | exact Kp.drew.no_trans (Kp.alloc _)) (by rw [HX.out]; exact hown) hgrow (hat.imp id (fun e => by omega))⟩
          case rest =>
            obtain ⟨L3, q⟩ := hcut
            have Q2 := Lib.hid q
            clear c1 z1 oA hdg f0 f1 f2 l9 l10 plt Q1 HS q
            -- the entry
            obtain ⟨gt2, ct2, hst2, q1, q2, ktb⟩ := Q2.out.rep.tab_at (v := v) hvo
            have c2 := Q2.out.rep.c2
            rw [hst2] at c2
            replace c2 : wc.cell? ⟨d, 2, none⟩ = some (.slice (some ⟨gt2, 0, none⟩) o.length ct2) := c2
            obtain ⟨A9, hup, t9⟩ := Q2.out.tabset (v := v) hvo ((lo : Int), (hi : Int)) (by
              have := mkD_none NK.out hlt
              rw [HX.out] at this
              exact this) (j + 2)
            have up : (Instr.mapUpdate 115 (.map (some (L3.tb.getD v 0))) (.agg #[.int .i64 (lo : Int), .int .i64 (hi : Int)]) (.int .i64 ((j : Int) + 2))).run Tryz.prog wc.drew = .ok () A9.drew := hup 1
            have Q3 : Hid (NwJ w d (.slice (some ⟨gn, 0, none⟩) N.length cn) (.slice ar R.length cr) N R [(b10, .cells #[.int .i64 (lo : Int), .int .i64 (hi : Int)] 129 (0, 0)), (b9, .cells #[.int .i64 (v : Int), .int .i64 (lo : Int), .int .i64 (hi : Int)] 96 (0, 0))] A9.drew (mkD o N (j + 1) (kidL N j)) L3) := Lib.hid (by
              rw [← mkD_tab, HX.out]
              exact t9.no Kp.drew)
            have x10 := (Q2.out.bx _ (.head _)).1
            have x9 := (Q2.out.bx _ (.tail _ (.head _))).1
            have f0 : wc.cell? ⟨b9, 0, none⟩ = some (.int .i64 (v : Int)) := by simp [World.cell?, x9]
            have f1 : wc.cell? ⟨b10, 0, none⟩ = some (.int .i64 (lo : Int)) := by simp [World.cell?, x10]
            have f2 : wc.cell? ⟨b10, 1, none⟩ = some (.int .i64 (hi : Int)) := by simp [World.cell?, x10]
            have l9 := heap_lt x9
            have l10 := heap_lt x10
            have plt := heap_lt Q2.out.rep.blk
            have gtlt := World.block_lt_of_cell? _ _ ktb
            have n1 : (v : Int) < o.length := by omega
            have n2 : (j : Int) + 2 ≤ 1000000002 := by omega
            clear Q2 q1 q2 hst2 hup t9 x9 x10
            generalize L3.tb.getD v 0 = bm2 at *
            go_wp2
            go_region
            clear c2 ktb f0 f1 f2 l9 l10 plt gtlt n1 up
            generalize A9.drew = A10 at *
            -- the first child's reference
            obtain ⟨g2, cap2, hs2, q1, hcm, hcel, hz⟩ := Q3.out.rep.cel (by show 0 < j + 3; omega)
            replace hs2 : L3.sc = .slice (some ⟨g2, 0, none⟩) (j + 1 + 2) cap2 := hs2
            obtain ⟨m0, hm0⟩ : ∃ m : Nat, (kidL N j).count lo = m := ⟨_, rfl⟩
            have k3 : A10.cell? ⟨g2, lo * 4 + 3, none⟩ = some (.int .i64 (m0 : Int)) := by rw [← hm0]; exact (hcel lo (by show lo < j + 3; omega)).2.2.2
            have z3 := hz (lo * 4 + 3)
            have c1 := Q3.out.rep.c1
            rw [hs2] at c1
            have x9 := (Q3.out.bx _ (.tail _ (.head _))).1
            have f1 : A10.cell? ⟨b9, 1, none⟩ = some (.int .i64 (lo : Int)) := by simp [World.cell?, x9]
            have plt := heap_lt Q3.out.rep.blk
            have glt := World.block_lt_of_cell? _ _ k3
            have l9 := heap_lt x9
            have hm1 : m0 ≤ 2000000000 := by
              have h1 := List.count_le_length (a := lo) (l := kidL N j)
              rw [kidL_len N j (by omega)] at h1
              omega
            have n1 : (lo : Int) < ((j + 1 + 2 : Nat) : Int) := by omega
            have n3 : (lo : Int) < (j : Int) + 1 + 2 := by omega
            have n4 : j + 1 + 2 ≤ 9223372036854775807 := by omega
            have Q4 : Hid (NwJ w d (.slice (some ⟨gn, 0, none⟩) N.length cn) (.slice ar R.length cr) N R [(b10, .cells #[.int .i64 (lo : Int), .int .i64 (hi : Int)] 129 (0, 0)), (b9, .cells #[.int .i64 (v : Int), .int .i64 (lo : Int), .int .i64 (hi : Int)] 96 (0, 0))] (A10.setCell ⟨g2, lo * 4 + 3, none⟩ (.int .i64 ((m0 : Int) + 1))) (mkD o N (j + 1) (kidL N j ++ [lo])) L3) := Lib.hid (by
              have := Q3.out.inc (i := lo) hs2 (by omega)
              rw [hm0] at this
              exact this)
            have HS2 := Lib.hid hs2
            clear Q3 q1 hcm hcel hz hs2 x9 hm0
            go_upto_region 13 with fail
            go_region
            go_upto_region 14 with fail
            have Q5 := Lib.hid (Q4.out.no Kp.drew)
            clear c1 k3 z3 f1 plt glt l9 n1 n3 hm1 Q4
            generalize (A10.setCell ⟨g2, lo * 4 + 3, none⟩ (.int .i64 ((m0 : Int) + 1))).drew = A11 at *
            -- the second child's reference
            obtain ⟨g3, cap3, hs3, q1, hcm, hcel, hz⟩ := Q5.out.rep.cel (by show 0 < j + 3; omega)
            rw [HS2.out] at hs3
            cases hs3
            obtain ⟨m1, hm1⟩ : ∃ m : Nat, (kidL N j ++ [lo]).count hi = m := ⟨_, rfl⟩
            have k3 : A11.cell? ⟨g2, hi * 4 + 3, none⟩ = some (.int .i64 (m1 : Int)) := by rw [← hm1]; exact (hcel hi (by show hi < j + 3; omega)).2.2.2
            have z3 := hz (hi * 4 + 3)
            have c1 := Q5.out.rep.c1
            rw [HS2.out] at c1
            have x9 := (Q5.out.bx _ (.tail _ (.head _))).1
            have f1 : A11.cell? ⟨b9, 2, none⟩ = some (.int .i64 (hi : Int)) := by simp [World.cell?, x9]
            have plt := heap_lt Q5.out.rep.blk
            have glt := World.block_lt_of_cell? _ _ k3
            have l9 := heap_lt x9
            have hm2 : m1 ≤ 2000000001 := by
              have h1 := List.count_le_length (a := hi) (l := kidL N j ++ [lo])
              rw [List.length_append, kidL_len N j (by omega), List.length_singleton] at h1
              omega
            have n1 : (hi : Int) < ((j + 1 + 2 : Nat) : Int) := by omega
            have n3 : (hi : Int) < (j : Int) + 1 + 2 := by omega
            have Q6 : Hid (NwJ w d (.slice (some ⟨gn, 0, none⟩) N.length cn) (.slice ar R.length cr) N R [] (A11.setCell ⟨g2, hi * 4 + 3, none⟩ (.int .i64 ((m1 : Int) + 1))).drew (mkD o N (j + 1) (kidL N (j + 1))) L3) := Lib.hid (by
              have := Q5.out.inc (i := hi) HS2.out (by omega)
              rw [hm1] at this
              rw [kidL_succ hlt, HX.out]
              exact (this.no Kp.drew).sub (fun _ h => by cases h))
            clear Q5 q1 hcm hcel hz x9 hm1
            go_region
            go_wp2
            go_roundg (N.length - (j + 1))
            case measure => have := HJ.out; omega
            case rel => exact ⟨j + 1, L3, by omega, rfl, Q6.out⟩
        · obtain rfl : j = N.length := by omega
          have hge : ¬ (N.length : Int) < N.length := by omega
          have J2 : Hid (NwJ w d (.slice an N.length cn) (.slice ar R.length cr) N R [] wr (mkD o N N.length (kidL N N.length ++ rsN (R.take 0))) L) := Lib.hid (by
            rw [show rsN (R.take 0) = [] by rw [List.take_zero]; rfl, List.append_nil]
            exact s)
          have hR := HNL.out.2.1
          clear s S0 hj hlt
          go_wp2
          go_loopg [109] R.length (fun gk s z => ∃ (i : Nat) (L : DLay), i + gk = R.length ∧ s = .int .i64 (i : Int) ∧ NwJ w d (.slice an N.length cn) (.slice ar R.length cr) N R [] z (mkD o N N.length (kidL N N.length ++ rsN (R.take i))) L)
          case atStart => exact ⟨0, L, by omega, rfl, J2.out⟩
          case round =>
            clear J2
            obtain ⟨i, L, hi, rfl, s⟩ := hrel
            have HI := Lib.hid hi
            have S0 := Lib.hid s
            by_cases hlt : i < R.length
            · have hlti : (i : Int) < R.length := by omega
              obtain ⟨gr, capr, hvr, q1, q2, q3, hcr, q4⟩ := ownsRow_open (row_zero s.rr) (by omega)
              cases hvr
              have d0 : wr.cell? ⟨gr, i, none⟩ = some (.int .i64 (R.getD i 0)) := hcr i _ (by simp [hlt, intV])
              have grlt := World.block_lt_of_cell? _ _ d0
              have SN : Hid (rsN (R.take (i + 1)) = if 0 ≤ R.getD i 0 then rsN (R.take i) ++ [(R.getD i 0).toNat] else rsN (R.take i)) := Lib.hid (by
                rw [List.take_succ_eq_append_getElem hlt, rsN_snoc, List.getD_eq_getElem?_getD, List.getElem?_eq_getElem hlt]; rfl)
              rcases NK.out.root i hlt with hneg | ⟨r, hr, hrn⟩
              · have hn0 : ¬ 0 ≤ R.getD i 0 := by omega
                rw [if_neg hn0] at SN
                have JN : Hid (NwJ w d (.slice an N.length cn) (.slice (some ⟨gr, 0, none⟩) R.length cr) N R [] wr (mkD o N N.length (kidL N N.length ++ rsN (R.take (i + 1)))) L) := Lib.hid (by rw [SN.out]; exact s)
                clear s hi q1 q2 q3 q4 hcr S0
                generalize R.getD i 0 = rr at *
                go_wp2
                go_roundg (R.length - (i + 1))
                case measure => have := HI.out; omega
                case rel => exact ⟨i + 1, L, by omega, rfl, JN.out⟩
              · rw [hr] at d0 SN
                rw [if_pos (by omega), Int.toNat_natCast] at SN
                obtain ⟨g3, cap3, hs3, q5, hcm, hcel, hz⟩ := s.rep.cel (by show 0 < N.length + 2; omega)
                replace hs3 : L.sc = .slice (some ⟨g3, 0, none⟩) (N.length + 2) cap3 := hs3
                obtain ⟨m1, hm1⟩ : ∃ m : Nat, (kidL N N.length ++ rsN (R.take i)).count r = m := ⟨_, rfl⟩
                have k3 : wr.cell? ⟨g3, r * 4 + 3, none⟩ = some (.int .i64 (m1 : Int)) := by rw [← hm1]; exact (hcel r hrn).2.2.2
                have z3 := hz (r * 4 + 3)
                have c1 := s.rep.c1
                rw [hs3] at c1
                have plt := heap_lt s.rep.blk
                have glt := World.block_lt_of_cell? _ _ k3
                have hm2 : m1 ≤ 2001000001 := by
                  have h1 := List.count_le_length (a := r) (l := kidL N N.length ++ rsN (R.take i))
                  rw [List.length_append, kidL_len N N.length (Nat.le_refl _)] at h1
                  have h2 : (rsN (R.take i)).length ≤ R.length := by
                    unfold rsN
                    rw [List.length_map]
                    exact Nat.le_trans (List.length_filter_le _ _) (by rw [List.length_take]; omega)
                  have h3 := HNL.out.1
                  omega
                have n1 : (r : Int) < ((N.length + 2 : Nat) : Int) := by omega
                have n3 : (r : Int) < (N.length : Int) + 2 := by omega
                have n4 : N.length + 2 ≤ 9223372036854775807 := by have := HNL.out.1; omega
                have n5 : (0 : Int) ≤ r := by omega
                have JN : Hid (NwJ w d (.slice an N.length cn) (.slice (some ⟨gr, 0, none⟩) R.length cr) N R [] (wr.setCell ⟨g3, r * 4 + 3, none⟩ (.int .i64 ((m1 : Int) + 1))) (mkD o N N.length (kidL N N.length ++ rsN (R.take (i + 1)))) L) := Lib.hid (by
                  have := s.inc (i := r) hs3 hrn
                  rw [hm1] at this
                  rw [SN.out, ← List.append_assoc]
                  exact this)
                clear s hi q1 q2 q3 q4 q5 hcr S0 hcm hcel hz hs3 hm1 hr hrn SN
                go_wp2
                go_roundg (R.length - (i + 1))
                case measure => have := HI.out; omega
                case rel => exact ⟨i + 1, L, by omega, rfl, JN.out⟩
            · obtain rfl : i = R.length := by omega
              have hge : ¬ (R.length : Int) < R.length := by omega
              have P := Lib.hid (FIN.out d L wr (by
                have := s.rep
                rw [List.take_of_length_le (Nat.le_refl _)] at this
                exact this) s.kp s.own)
              clear s S0 hi hlt
              go_wp2
              go_ret
              exact P.out

end Go.Proofs.YtngbodmooddjbaaGreat

namespace Go.Proofs.YtngbodmooddjbaaGreat
open Go.RowKit

theorem SfP.sub {m : List Nat} {v s t0 : Nat} {E : List Nat} {Gs Fs : List Bfn} {D : Dg} {p best goal : Nat} {vis vis' : Nat → Prop} (x : SfP m v s t0 E Gs Fs D p best goal vis) (h : ∀ q, vis' q → vis q) : SfP m v s t0 E Gs Fs D p best goal vis' :=
  ⟨x.inv, x.ord, x.pl, x.gl, x.bt, fun q hq => x.lb q (h q hq), x.st⟩
/-- 'swap' as the functions behind the references see it. -/
def SwH (d : Nat) (L : DLay) (w : World) (D : Dg) (k : Nat) (E : List Nat) (Gs Fs : List Bfn) (e : Ending) (w' : World) : Prop :=
  e = .returned (.tuple #[]) ∧ ∃ D', DRet d L w D' w' ∧ D'.Hold E Gs Fs ∧ D'.order = swO D.order k
theorem DSwap_hold {w : World} {d : Nat} {D : Dg} {L : DLay} {k : Nat} {E : List Nat} {Gs Fs : List Bfn} (h : D.Hold E Gs Fs) (b : SwB D E Fs) (hk : k + 1 < D.n) (hn : D.n ≤ 256) (R : DRep w d D L) :
    Calls Tryz.prog 82 #[ptr d, .int .i64 (k : Int)] w (SwH d L w D k E Gs Fs) := by
  obtain ⟨S, h1, h2⟩ := h
  refine (DSwap_ok (h1.k' k) b hk hn R).mono ?_
  rintro e w' ⟨rfl, D', S', r, i, o, x⟩
  exact ⟨rfl, D', r, ⟨S', i.k' 0, by rw [← h2]; exact List.map_congr_left (fun e he => x e he)⟩, o⟩
theorem Dg.Hold.total_le {D : Dg} {E : List Nat} {Gs Fs : List Bfn} (h : D.Hold E Gs Fs) (b : SwB D E Fs) : D.total ≤ 10000000000 := by
  obtain ⟨S, h1, _⟩ := h
  have := h1.total_le
  have := b.b
  omega
/-- What 'sift' leaves. -/
def SiP (d : Nat) (L : DLay) (w : World) (D : Dg) (v : Nat) (E : List Nat) (Gs Fs : List Bfn) (e : Ending) (w' : World) : Prop :=
  ∃ (s goal : Nat) (D' : Dg), e = .returned (.bool (!decide (goal = s))) ∧ s < D.order.length ∧ D.order.getD s 0 = v ∧ SfD (D.order.eraseIdx s) v s D.total E Gs Fs D' goal ∧ DRet d L w D' w'
/-- The bounds that every order of the same variables has. -/
structure SiB (n : Nat) (E : List Nat) (Fs : List Bfn) : Prop where
  b : Fs.length * 3 ^ n ≤ 10000000000
  e : E.length ≤ 10000000000
  n : n ≤ 256
theorem SiB.sw {n : Nat} {E : List Nat} {Fs : List Bfn} (b : SiB n E Fs) {D : Dg} (h : D.n = n) : SwB D E Fs := ⟨by rw [h]; exact b.b, b.e⟩
/-- The state of 'sift'. -/
def SiJ (w : World) (d : Nat) (L : DLay) (m : List Nat) (v s t0 : Nat) (E : List Nat) (Gs Fs : List Bfn) (p best goal : Nat) (vis : Nat → Prop) (x : World) (D' : Dg) (L' : DLay) : Prop :=
  DRep x d D' L' ∧ Kp (L.at d) w x ∧ Fresh (L.at d) (L'.at d) w ∧ SfP m v s t0 E Gs Fs D' p best goal vis
section
variable {w : World} {d : Nat} {L : DLay} {m : List Nat} {v s t0 : Nat} {E : List Nat} {Gs Fs : List Bfn} {p best goal : Nat} {vis : Nat → Prop} {x y : World} {D' : Dg} {L' : DLay}
theorem SiJ.len (j : SiJ w d L m v s t0 E Gs Fs p best goal vis x D' L') : D'.order.length = m.length + 1 := by rw [j.2.2.2.ord, insO_len]
theorem SiJ.cells (j : SiJ w d L m v s t0 E Gs Fs p best goal vis x D' L') : d < x.heap.size ∧ (∃ a c, x.cell? ⟨d, 0, none⟩ = some (.slice a (m.length + 1) c)) ∧ x.cell? ⟨d, 4, none⟩ = some (.int .i64 (D'.total : Int)) := by
  obtain ⟨a, c, h, _⟩ := ownsRow_len j.1.order
  have c0 := j.1.c0
  rw [h, j.len] at c0
  exact ⟨heap_lt j.1.blk, ⟨a, c, c0⟩, j.1.c4⟩
theorem SiJ.call (j : SiJ w d L m v s t0 E Gs Fs p best goal vis x D' L') (b : SiB (m.length + 1) E Fs) (k : Nat) (hk : k + 1 < m.length + 1) : Calls Tryz.prog 82 #[ptr d, .int .i64 (k : Int)] x (SwH d L' x D' k E Gs Fs) := by
  have hn : D'.n = m.length + 1 := j.len
  exact DSwap_hold j.2.2.2.inv (b.sw hn) (by rw [hn]; exact hk) (by rw [hn]; exact b.n) j.1
theorem SiJ.up (j : SiJ w d L m v s t0 E Gs Fs p best goal vis x D' L') (hp : p < m.length) {e : Ending} (h : SwH d L' x D' p E Gs Fs e y) : e = .returned (.tuple #[]) ∧ ∃ D2 L2, SiJ w d L m v s t0 E Gs Fs (p + 1) best goal vis y D2 L2 := by
  obtain ⟨rfl, D2, r, hd, o⟩ := h
  obtain ⟨L2, r2, k2, f2⟩ := DRet.trans j.2.1 j.2.2.1 r
  exact ⟨rfl, D2, L2, r2, k2, f2, j.2.2.2.move hd (by rw [o, j.2.2.2.ord, swO_ins hp]) hp⟩
theorem SiJ.down {q : Nat} (j : SiJ w d L m v s t0 E Gs Fs (q + 1) best goal vis x D' L') {e : Ending} (h : SwH d L' x D' q E Gs Fs e y) : e = .returned (.tuple #[]) ∧ ∃ D2 L2, SiJ w d L m v s t0 E Gs Fs q best goal vis y D2 L2 := by
  have hp := j.2.2.2.pl
  obtain ⟨rfl, D2, r, hd, o⟩ := h
  obtain ⟨L2, r2, k2, f2⟩ := DRet.trans j.2.1 j.2.2.1 r
  exact ⟨rfl, D2, L2, r2, k2, f2, j.2.2.2.move hd (by rw [o, j.2.2.2.ord, swO_back (by omega)]) (by omega)⟩
theorem SiJ.less (j : SiJ w d L m v s t0 E Gs Fs p best goal vis x D' L') (h : D'.total < best) : SiJ w d L m v s t0 E Gs Fs p D'.total p (fun q => vis q ∨ q = p) x D' L' := ⟨j.1, j.2.1, j.2.2.1, j.2.2.2.less h⟩
theorem SiJ.more (j : SiJ w d L m v s t0 E Gs Fs p best goal vis x D' L') (h : ¬ D'.total < best) : SiJ w d L m v s t0 E Gs Fs p best goal (fun q => vis q ∨ q = p) x D' L' := ⟨j.1, j.2.1, j.2.2.1, j.2.2.2.more h⟩
theorem SiJ.sub {vis' : Nat → Prop} (j : SiJ w d L m v s t0 E Gs Fs p best goal vis x D' L') (h : ∀ q, vis' q → vis q) : SiJ w d L m v s t0 E Gs Fs p best goal vis' x D' L' := ⟨j.1, j.2.1, j.2.2.1, j.2.2.2.sub h⟩
end

set_option maxRecDepth 100000 in
set_option maxHeartbeats 4000000 in
theorem DSift_ok {w : World} {d v : Nat} {D : Dg} {L : DLay} {E : List Nat} {Gs Fs : List Bfn} (h : D.Hold E Gs Fs) (b : SiB D.n E Fs) (hv : v < D.n) (R : DRep w d D L) :
    Calls Tryz.prog 69 #[ptr d, .int .i64 (v : Int)] w (SiP d L w D v E Gs Fs) := by
  have IDX := Lib.hid (SIdx_ok (l := D.order) (v := v) (by have := b.n; exact this) (h.perm.has hv) (SrcAt.of_row R.order))
  have c0 := R.c0
  have c4 := R.c4
  have plt := heap_lt R.blk
  have HH := Lib.hid h
  have HB := Lib.hid b
  have HR := Lib.hid R
  obtain ⟨a, c, hso, _⟩ := ownsRow_len R.order
  rw [hso] at c0 IDX
  clear h b R hso
  go_enter Tryz.func69, Tryz.ntmps69
  go_wp2_with fail
  refine IDX.out.mono ?_
  rintro e w' ⟨s, rfl, rfl, hs, hsv, _⟩
  have hml : (D.order.eraseIdx s).length + 1 = D.order.length := by rw [List.length_eraseIdx, if_pos hs]; omega
  have J0 : Hid (SiJ w' d L (D.order.eraseIdx s) v s D.total E Gs Fs s D.total s (fun q => q = s) w' D L) := Lib.hid
    ⟨HR.out, Kp.refl _ _, fun _ h => .inl h, SfP.start HH.out (by rw [← hsv, insO_erase hs]) (by omega)⟩
  have T0 : Hid (IsTot (insO (D.order.eraseIdx s) v s) Gs D.total) := Lib.hid (by
    have := HH.out.tot
    rwa [← hsv, insO_erase hs])
  have HSV := Lib.hid (And.intro hs hsv)
  have B2 : Hid (SiB ((D.order.eraseIdx s).length + 1) E Fs) := Lib.hid (by rw [hml]; exact HB.out)
  have hsl : s ≤ (D.order.eraseIdx s).length := by omega
  have hm256 : (D.order.eraseIdx s).length ≤ 255 := by have := HB.out.n; have : D.order.length ≤ 256 := this; omega
  have MK : Hid (∀ (goal : Nat) (D' : Dg) (x : World), SfD (D.order.eraseIdx s) v s D.total E Gs Fs D' goal → DRet d L w' D' x → SiP d L w' D v E Gs Fs (.returned (.bool (!decide (goal = s)))) x) := Lib.hid (fun goal D' x h1 h2 => ⟨s, goal, D', rfl, HSV.out.1, HSV.out.2, h1, h2⟩)
  have TB : Hid (D.total ≤ 10000000000) := Lib.hid (HH.out.total_le (HB.out.sw rfl))
  have PT : Hid (∀ p best goal vis x D' L', SiJ w' d L (D.order.eraseIdx s) v s D.total E Gs Fs p best goal vis x D' L' → D'.total ≤ 10000000000) := Lib.hid (fun p best goal vis x D' L' j => j.2.2.2.inv.total_le (B2.out.sw j.len))
  generalize D.order.eraseIdx s = m at *
  generalize D.total = t0 at *
  clear hs hsv hml IDX HR HSV
  go_wp2
  go_loopg [6, 7, 8] (m.length - s) (fun gk s6 s7 s8 x => ∃ (p best goal : Nat) (D' : Dg) (L' : DLay), p + gk = m.length ∧ s6 = .int .i64 (best : Int) ∧ s7 = .int .i64 (goal : Int) ∧ s8 = .int .i64 (p : Int) ∧ SiJ w' d L m v s t0 E Gs Fs p best goal (fun q => s ≤ q ∧ q ≤ p) x D' L')
  case atStart => exact ⟨s, t0, s, D, L, by omega, rfl, rfl, rfl, J0.out.sub (fun q h => by omega)⟩
  case round =>
    clear J0 TB
    obtain ⟨p, best, goal, D1, L1, hp, rfl, rfl, rfl, j⟩ := hrel
    obtain ⟨plt, ⟨a, c, c0⟩, _⟩ := j.cells
    have HP := Lib.hid hp
    have J := Lib.hid j
    by_cases hlt : p < m.length
    · have hlti : (p : Int) < m.length := by omega
      have CALL := Lib.hid (j.call B2.out p (by omega))
      clear j hp
      go_wp2_with fail
      refine CALL.out.mono ?_
      intro e y hy
      obtain ⟨rfl, D2, L2, j2⟩ := J.out.up hlt hy
      obtain ⟨plt2, _, c4⟩ := j2.cells
      have ht := PT.out _ _ _ _ _ _ _ j2
      have J2 := Lib.hid j2
      clear j2 hy CALL J c0 plt
      by_cases hl : D2.total < best
      · have hli : (D2.total : Int) < best := by omega
        have JN := Lib.hid ((J2.out.less hl).sub (vis' := fun q => s ≤ q ∧ q ≤ p + 1) (fun q h => by omega))
        clear J2 hl
        generalize D2.total = t2 at *
        go_wp2
        go_roundg (m.length - (p + 1))
        case measure => have := HP.out; omega
        case rel => exact ⟨p + 1, t2, p + 1, D2, L2, by omega, rfl, rfl, rfl, JN.out⟩
      · have hli : ¬ (D2.total : Int) < best := by omega
        have JN := Lib.hid ((J2.out.more hl).sub (vis' := fun q => s ≤ q ∧ q ≤ p + 1) (fun q h => by omega))
        clear J2 hl
        generalize D2.total = t2 at *
        go_wp2
        go_roundg (m.length - (p + 1))
        case measure => have := HP.out; omega
        case rel => exact ⟨p + 1, best, goal, D2, L2, by omega, rfl, rfl, rfl, JN.out⟩
    · obtain rfl : p = m.length := by omega
      have hge : ¬ (m.length : Int) < m.length := by omega
      have J1 := Lib.hid (J.out.sub (vis' := fun q => m.length ≤ q ∧ q ≤ m.length) (fun q h => by omega))
      clear j hp J hlt
      go_wp2
      go_loopg [6, 7, 8] m.length (fun gk s6 s7 s8 x => ∃ (best goal : Nat) (D' : Dg) (L' : DLay), gk ≤ m.length ∧ s6 = .int .i64 (best : Int) ∧ s7 = .int .i64 (goal : Int) ∧ s8 = .int .i64 (gk : Int) ∧ SiJ w' d L m v s t0 E Gs Fs gk best goal (fun q => gk ≤ q ∧ q ≤ m.length) x D' L')
      case atStart => exact ⟨best, goal, D1, L1, Nat.le_refl _, rfl, rfl, rfl, J1.out⟩
      case round =>
        clear J1
        obtain ⟨best, goal, D1, L1, hp, rfl, rfl, rfl, j⟩ := hrel
        have J := Lib.hid j
        by_cases hlt : 0 < gk
        · obtain ⟨q, rfl⟩ : ∃ q, gk = q + 1 := ⟨gk - 1, by omega⟩
          have CALL := Lib.hid (j.call B2.out q (by omega))
          have hq : q + 1 ≤ 256 := by omega
          have hq0 : (0 : Int) < (q : Int) + 1 := by omega
          clear j
          go_wp2_with fail
          refine CALL.out.mono ?_
          intro e y hy
          obtain ⟨rfl, D2, L2, j2⟩ := J.out.down hy
          obtain ⟨plt2, _, c4⟩ := j2.cells
          have ht := PT.out _ _ _ _ _ _ _ j2
          have J2 := Lib.hid j2
          clear j2 hy CALL J
          by_cases hl : D2.total < best
          · have hli : (D2.total : Int) < best := by omega
            have JN := Lib.hid ((J2.out.less hl).sub (vis' := fun z => q ≤ z ∧ z ≤ m.length) (fun z h => by omega))
            clear J2 hl
            generalize D2.total = t2 at *
            go_wp2
            go_roundg q
            case measure => omega
            case rel => exact ⟨t2, q, D2, L2, by omega, rfl, rfl, rfl, JN.out⟩
          · have hli : ¬ (D2.total : Int) < best := by omega
            have JN := Lib.hid ((J2.out.more hl).sub (vis' := fun z => q ≤ z ∧ z ≤ m.length) (fun z h => by omega))
            clear J2 hl
            generalize D2.total = t2 at *
            go_wp2
            go_roundg q
            case measure => omega
            case rel => exact ⟨best, goal, D2, L2, by omega, rfl, rfl, rfl, JN.out⟩
        · obtain rfl : gk = 0 := by omega
          have gl := j.2.2.2.gl
          clear j hp hlt
          go_wp2
          go_loopg [8] goal (fun gk s8 x => ∃ (p : Nat) (D' : Dg) (L' : DLay), p + gk = goal ∧ s8 = .int .i64 (p : Int) ∧ SiJ w' d L m v s t0 E Gs Fs p best goal (fun q => 0 ≤ q ∧ q ≤ m.length) x D' L')
          case atStart => exact ⟨0, D1, L1, by omega, rfl, J.out⟩
          case round =>
            clear J
            obtain ⟨p, D1, L1, hp, rfl, j⟩ := hrel
            have HP := Lib.hid hp
            have J := Lib.hid j
            by_cases hlt : p < goal
            · have hlti : (p : Int) < goal := by omega
              have CALL := Lib.hid (j.call B2.out p (by omega))
              have hp2 : p + 1 ≤ 256 := by omega
              clear j hp
              go_wp2_with fail
              refine CALL.out.mono ?_
              intro e y hy
              obtain ⟨rfl, D2, L2, j2⟩ := J.out.up (by omega) hy
              have J2 := Lib.hid j2
              clear j2 hy CALL J
              go_wp2
              go_roundg (goal - (p + 1))
              case measure => have := HP.out; omega
              case rel => exact ⟨p + 1, D2, L2, by omega, rfl, J2.out⟩
            · obtain rfl : p = goal := by omega
              have hge : ¬ (p : Int) < p := by omega
              have FIN := Lib.hid (MK.out p D1 wr (j.2.2.2.done (fun q hq => by omega) T0.out) ⟨L1, j.1, j.2.1, j.2.2.1⟩)
              clear j hp J hlt
              by_cases e : p = s
              · have e1 : ((p : Int) == (s : Int)) = true := by rw [e]; simp
                have e2 : ((p : Int) != (s : Int)) = false := by rw [e]; simp
                rw [decide_eq_true e] at FIN
                clear e
                go_wp2
                go_ret
                exact FIN.out
              · have e1 : ((p : Int) == (s : Int)) = false := by simp; omega
                have e2 : ((p : Int) != (s : Int)) = true := by simp; omega
                rw [decide_eq_false e] at FIN
                clear e
                go_wp2
                go_ret
                exact FIN.out

end Go.Proofs.YtngbodmooddjbaaGreat

namespace Go.Proofs.YtngbodmooddjbaaGreat
open Go.RowKit

theorem MapL.len {K V : Type} {w : World} {b : Nat} {enc : K → Value} {ev : V → Value} {l : List (K × V)} {P : Program} {t kt et : TypeId} (h : MapL w b enc ev l) (ht : P.underlying t = some (.map kt et)) (u : TypeId) :
    (Builtin.len_ #[t] u #[.map (some b)]).run P w = .ok (.int .i64 (l.length : Int)) w := by
  obtain ⟨Z, c, hb, rfl, _⟩ := h
  have := len_map hb ht u
  rw [this]
  simp
/-- What 'Sift' leaves. -/
structure SftD (M : Mgr) (vs : List Int) (Gs : List Bfn) (l : List Nat) (t t0 : Nat) : Prop where
  h0 : IsTot M.order Gs t0
  ht : IsTot l Gs t
  le : t ≤ t0
  stay : StayO l vs Gs t
  kept : keptO vs l = keptO vs M.order
  perm : PermL l
  len : l.length = M.n
  same : StayO M.order vs Gs t0 → l = M.order
def SftP (w : World) (p : Nat) (M : Mgr) (L : Lay) (vs : List Int) (Gs : List Bfn) (e : Ending) (w' : World) : Prop :=
  ∃ (l : List Nat) (t t0 : Nat), e = .returned (.int .i64 (t : Int)) ∧ ArS w p M L l w' ∧ SftD M vs Gs l t t0
theorem SiftD.done {M : Mgr} {vs : List Int} {t0 : Nat} {E : List Nat} {Gs Fs : List Bfn} {D : Dg} {mv : Bool} (h0 : IsTot M.order Gs t0) (x : SiftD M.order vs t0 E Gs Fs D mv) (st : StayO D.order vs Gs D.total) : SftD M vs Gs D.order D.total t0 := by
  refine ⟨h0, x.inv.tot, ?_, st, x.kept, x.inv.perm, x.len, fun h => ?_⟩
  · cases mv with
    | false => exact Nat.le_of_eq (x.no rfl).2
    | true => exact Nat.le_of_lt (x.yes rfl).1
  · cases mv with
    | false => exact (x.no rfl).1
    | true =>
      obtain ⟨v, hv, hl, p, hp, t', ht, hlt⟩ := (x.yes rfl).2
      have := h v hv hl p hp t' ht
      omega
/-- The state of 'Sift'. -/
structure SfJ (w : World) (d : Nat) (M : Mgr) (vs : List Int) (t0 : Nat) (E : List Nat) (Gs : List Bfn) (mv : Bool) (x : World) (D : Dg) (L : DLay) : Prop where
  rep : DRep x d D L
  kp : Kp No w x
  own : ∀ k, L.at d k → w.heap.size ≤ k
  sd : SiftD M.order vs t0 E Gs Gs D mv
def SfO (w : World) (d : Nat) (M : Mgr) (vs : List Int) (t0 : Nat) (E : List Nat) (Gs : List Bfn) (gk : Nat) (s8 s9 : Value) (x : World) : Prop :=
  ∃ (ag mv : Bool) (D : Dg) (L : DLay), s9 = .bool ag ∧ s8 = .bool mv ∧ gk = (if ag then D.total + 1 else 0) ∧ SfJ w d M vs t0 E Gs mv x D L ∧ (ag = false → StayO D.order vs Gs D.total)
def SfI (w : World) (d : Nat) (M : Mgr) (vs : List Int) (t0 t1 : Nat) (E : List Nat) (Gs : List Bfn) (gk : Nat) (s8 s9 s18 : Value) (x : World) : Prop :=
  ∃ (j : Nat) (ag mv : Bool) (D : Dg) (L : DLay), j + gk = vs.length ∧ s18 = .int .i64 (j : Int) ∧ s9 = .bool ag ∧ s8 = .bool mv ∧ SfJ w d M vs t0 E Gs mv x D L ∧ PassD vs Gs t1 j D ag
section
variable {w x y : World} {d : Nat} {M : Mgr} {vs : List Int} {t0 : Nat} {E : List Nat} {Gs : List Bfn} {mv : Bool} {D : Dg} {L : DLay}
theorem SfJ.len (s : SfJ w d M vs t0 E Gs mv x D L) : D.order.length = M.n := s.sd.len
theorem SfJ.sift (s : SfJ w d M vs t0 E Gs mv x D L) (b : SiB M.n E Gs) {v : Nat} (hv : v < M.n) : Calls Tryz.prog 69 #[ptr d, .int .i64 (v : Int)] x (SiP d L x D v E Gs Gs) :=
  DSift_ok s.sd.inv (by rw [show D.n = M.n from s.len]; exact b) (by rw [show D.n = M.n from s.len]; exact hv) s.rep
theorem SfJ.ret {D2 : Dg} {mv2 : Bool} (s : SfJ w d M vs t0 E Gs mv x D L) (h : DRet d L x D2 y) (sd : SiftD M.order vs t0 E Gs Gs D2 mv2) : ∃ L2, SfJ w d M vs t0 E Gs mv2 y D2 L2 := by
  obtain ⟨L2, r, k, f⟩ := h
  refine ⟨L2, r, s.kp.trans (A' := L.at d) (fun a ha => .inr (s.own a ha)) k, fun a ha => ?_, sd⟩
  rcases f a ha with h | h
  · exact s.own a h
  · have := s.kp.size; omega
theorem SfJ.order (s : SfJ w d M vs t0 E Gs mv x D L) : d < x.heap.size ∧ (∃ a c, L.so = .slice a M.n c ∧ x.cell? ⟨d, 0, none⟩ = some (.slice a M.n c) ∧ SrcAt x (.slice a M.n c) 1 D.order.length (D.order.map natV)) ∧ x.cell? ⟨d, 4, none⟩ = some (.int .i64 (D.total : Int)) := by
  obtain ⟨a, c, h, _⟩ := ownsRow_len s.rep.order
  have c0 := s.rep.c0
  have src := SrcAt.of_row s.rep.order
  rw [h] at src
  rw [h, s.len] at c0
  rw [s.len] at h
  rw [show Value.slice a D.order.length c = .slice a M.n c by rw [s.len]] at src
  exact ⟨heap_lt s.rep.blk, ⟨a, c, h, c0, src⟩, s.rep.c4⟩
theorem SfJ.table (s : SfJ w d M vs t0 E Gs mv x D L) {v : Nat} (hv : v < M.n) : ∃ (g c b n : Nat), x.cell? ⟨d, 2, none⟩ = some (.slice (some ⟨g, 0, none⟩) M.n c) ∧ x.cell? ⟨g, v, none⟩ = some (.map (some b)) ∧ (∀ u, (Builtin.len_ #[115] u #[.map (some b)]).run Tryz.prog x = .ok (.int .i64 (n : Int)) x) ∧ (n = 0 → ∀ p, D.tab v p = none) := by
  have hl := s.len
  obtain ⟨g, c, hst, _, _, k⟩ := s.rep.tab_at (v := v) (by rw [hl]; exact hv)
  obtain ⟨l, hM, hl0⟩ := s.rep.maps v (by rw [hl]; exact hv)
  have c2 := s.rep.c2
  rw [hst, hl] at c2
  refine ⟨g, c, _, l.length, c2, k, fun u => hM.len Tryz.underlying115 u, fun h0 p => ?_⟩
  rw [← hl0, List.eq_nil_of_length_eq_zero h0]; rfl
end

set_option maxRecDepth 1000000 in
set_option maxHeartbeats 8000000 in
theorem Sift_ok {p : Nat} {M : Mgr} {L : Lay} (fs vs : List Int) {fsv vsv : Value} {w : World} (R : Rep w p M L) (hfs : SrcAt w fsv 1 fs.length (fs.map intV)) (hvs : SrcAt w vsv 1 vs.length (vs.map intV)) (hfl : fs.length ≤ 1000000) (hvl : vs.length ≤ 1000000) (hnl : M.nodes.length ≤ 500000000) (hn : M.n ≤ 256)
    (hb : (visF M).length * 3 ^ M.n + M.n + 2 ≤ big) (hb2 : fs.length * 3 ^ M.n ≤ 10000000000) :
    Calls Tryz.prog 41 #[ptr p, fsv, vsv] w (SftP w p M L vs ((vld M fs).map M.sem)) := by
  have NEW := Lib.hid (NewDiagram_ok fs R hfs hfl (by omega) hn)
  obtain ⟨iv, iE⟩ := mkD_inv R.wf fs
  have INV : Hid ((mkD M.order (saveN M (saveM M fs).1.2) (saveM M fs).1.2.length ((saveN M (saveM M fs).1.2).flatMap kidsN ++ rsN (saveM M fs).2)).Hold (rsN (saveM M fs).2) ((vld M fs).map M.sem) ((vld M fs).map M.sem)) := Lib.hid ⟨_, iv, iE⟩
  have hvld : (vld M fs).length ≤ fs.length := by
    unfold vld
    rw [List.length_map]
    exact List.length_filter_le _ _
  have hroot : (rsN (saveM M fs).2).length ≤ fs.length := by
    unfold rsN
    rw [List.length_map]
    have := List.length_filter_le (fun r => decide (0 ≤ r)) (saveM M fs).2
    rw [saveM_len] at this
    exact this
  have SB : Hid (SiB M.n (rsN (saveM M fs).2) ((vld M fs).map M.sem)) := Lib.hid ⟨by
    rw [List.length_map]
    exact Nat.le_trans (Nat.mul_le_mul_right _ hvld) hb2, by omega, hn⟩
  have HO : Hid ((mkD M.order (saveN M (saveM M fs).1.2) (saveM M fs).1.2.length ((saveN M (saveM M fs).1.2).flatMap kidsN ++ rsN (saveM M fs).2)).order = M.order) := Lib.hid rfl
  have ARR : Hid (∀ (x : World) (l : List Nat) (ov : Value), Kp No w x → PermL l → l.length = M.n → SrcAt x ov 1 l.length (l.map natV) → Calls Tryz.prog 60 #[ptr p, ov] x (ArPost x p M L l)) := Lib.hid (fun x l ov k h1 h2 h3 => Arrange_ok (R.no k) h1 h2 hn h3 hb (by omega))
  have RR := Lib.hid R
  have VS := Lib.hid hvs
  obtain ⟨af, cf, rfl⟩ := hfs.form
  obtain ⟨av, cv, rfl⟩ := hvs.form
  unfold NwPost at NEW
  generalize rsN (saveM M fs).2 = E at *
  generalize (vld M fs).map M.sem = Gs at *
  generalize (mkD M.order (saveN M (saveM M fs).1.2) (saveM M fs).1.2.length ((saveN M (saveM M fs).1.2).flatMap kidsN ++ E)) = D0 at *
  have hno : M.order.length = M.n := rfl
  have HNO := Lib.hid hno
  clear R hfs hvs hb hb2 iv iE hvld hroot hnl hno
  go_enter Tryz.func41, Tryz.ntmps41
  go_wp2_with fail
  refine NEW.out.mono ?_
  rintro e w1 ⟨d, L1, rfl, r1, k1, o1⟩
  have J0 : Hid (SfJ w d M vs D0.total E Gs false w1 D0 L1) := Lib.hid ⟨r1, k1, o1, INV.out, by rw [HO.out], by rw [HO.out], fun _ => ⟨HO.out, rfl⟩, fun e => by cases e⟩
  have T0 : Hid (IsTot M.order Gs D0.total) := Lib.hid (by rw [← HO.out]; exact INV.out.tot)
  have JS : Hid (SfO w d M vs D0.total E Gs (D0.total + 1) (.bool false) (.bool true) w1) := Lib.hid ⟨true, false, D0, L1, rfl, rfl, rfl, J0.out, fun e => by cases e⟩
  obtain ⟨m0, hm0⟩ : ∃ m, D0.total + 1 = m := ⟨_, rfl⟩
  rw [hm0] at JS
  generalize D0.total = t0 at *
  clear r1 k1 o1 J0 NEW hm0 INV HO
  go_wp2
  go_loopg [8, 9] m0 (fun gk s8 s9 x => SfO w d M vs t0 E Gs gk s8 s9 x)
  case atStart => exact JS.out
  case round =>
    clear JS
    obtain ⟨ag, mv, D, L2, rfl, rfl, hgk, s, hst⟩ := hrel
    cases ag with
    | false =>
      obtain ⟨plt, ⟨a, c, hso, c0, src⟩, c4⟩ := s.order
      have DONE := Lib.hid (SiftD.done T0.out s.sd (hst rfl))
      have KX := Lib.hid s.kp
      have TB : Hid (D.total ≤ 10000000000) := Lib.hid (s.sd.inv.total_le (SB.out.sw s.len))
      cases mv with
      | false =>
        have FIN : Hid (SftP w p M L vs Gs (.returned (.int .i64 (D.total : Int))) wr) := Lib.hid ⟨D.order, D.total, t0, rfl, by rw [(s.sd.no rfl).1]; exact ArS.same RR.out s.kp, DONE.out⟩
        clear s hst src hso c0 DONE
        generalize D.total = t at *
        go_wp2
        go_ret
        exact FIN.out
      | true =>
        have AC := Lib.hid (ARR.out wr D.order (.slice a M.n c) s.kp s.sd.inv.perm s.len src)
        have S1 := Lib.hid s
        clear s hst src hso
        go_wp2_with fail
        refine AC.out.mono ?_
        intro e w4 h4
        obtain ⟨rfl, h5⟩ := h4
        have h6 : ArS wr p M L D.order w4 := h5
        have R4 : Hid (DRep w4 d D L2) := Lib.hid (by
          obtain ⟨_, _, _, _, _, _, _, kp, _⟩ := h6
          exact S1.out.rep.kp kp (fun k hk h => by
            have h7 := RR.out.lt k hk
            have h8 := S1.out.own k h
            omega))
        have FIN : Hid (SftP w p M L vs Gs (.returned (.int .i64 (D.total : Int))) w4) := Lib.hid ⟨D.order, D.total, t0, rfl, h6.from KX.out, DONE.out⟩
        have c4 := R4.out.c4
        have plt := heap_lt R4.out.blk
        clear h5 h6 AC S1 DONE c0 R4
        generalize D.total = t at *
        go_wp2
        go_ret
        exact FIN.out
    | true =>
      have hg : gk = D.total + 1 := hgk
      obtain ⟨t1, ht1⟩ : ∃ t1, D.total = t1 := ⟨_, rfl⟩
      have P0 : Hid (SfI w d M vs t0 t1 E Gs vs.length (.bool mv) (.bool false) (.int .i64 0) wr) := Lib.hid ⟨0, false, mv, D, L2, by omega, rfl, rfl, rfl, s, by rw [← ht1]; exact PassD.start vs Gs D⟩
      rw [ht1] at hg
      have HG := Lib.hid hg
      clear s hst hgk hg ht1
      go_wp2
      go_loopg [8, 9, 18] vs.length (fun gk s8 s9 s18 x => SfI w d M vs t0 t1 E Gs gk s8 s9 s18 x)
      case atStart => exact P0.out
      case round =>
        clear P0
        obtain ⟨j, ag, mv, D, L2, hj, rfl, rfl, rfl, s, ps⟩ := hrel
        have HJ := Lib.hid hj
        have S1 := Lib.hid s
        have PS := Lib.hid ps
        by_cases hlt : j < vs.length
        · have hlti : (j : Int) < vs.length := by omega
          obtain ⟨g1, o1, c2', hv1, glt, hc1⟩ := (VS.out.no s.kp).cellAt (by omega)
          cases hv1
          obtain ⟨x, hx⟩ : ∃ x, vs[j] = x := ⟨_, rfl⟩
          have f1 : wr.cell? ⟨g1, o1 + j, none⟩ = some (.int .i64 x) := hc1 j _ (by rw [← hx]; simp [hlt, intV])
          have HX : Hid (vs[j]? = some x) := Lib.hid (by rw [List.getElem?_eq_getElem hlt, hx])
          obtain ⟨plt, ⟨a, c, hso, c0, src⟩, c4⟩ := s.order
          have hlen := s.len
          have HLEN := Lib.hid hlen
          have SKIP : Hid (PassD vs Gs t1 (j + 1) D ag → SfI w d M vs t0 t1 E Gs (vs.length - (j + 1)) (.bool mv) (.bool ag) (.int .i64 ((j + 1 : Nat) : Int)) wr) := Lib.hid (fun h => ⟨j + 1, ag, mv, D, L2, by omega, rfl, rfl, rfl, s, h⟩)
          by_cases h0 : x < 0
          · have JN := Lib.hid (SKIP.out (ps.bad HX.out (by omega)))
            have h0' : ¬ 0 ≤ x := by omega
            clear s ps hj hc1 hx src hso hlen c4 SKIP S1 PS
            go_wp2
            go_roundg (vs.length - (j + 1))
            case measure => have := HJ.out; omega
            case rel => exact JN.out
          · by_cases h1 : (M.n : Int) ≤ x
            · have JN := Lib.hid (SKIP.out (ps.bad HX.out (by rw [HLEN.out]; omega)))
              have h0' : 0 ≤ x := by omega
              have h1' : ¬ x < (M.n : Int) := by omega
              clear s ps hj hc1 hx src hso hlen c4 SKIP S1 PS
              go_wp2
              go_roundg (vs.length - (j + 1))
              case measure => have := HJ.out; omega
              case rel => exact JN.out
            · obtain ⟨v, rfl⟩ := Int.eq_ofNat_of_zero_le (show 0 ≤ x by omega)
              have hv : v < M.n := by omega
              obtain ⟨gt, ct, b, n, c2, ktb, hln, hn0⟩ := s.table hv
              have hln' : (Builtin.len_ #[115] 3 #[.map (some b)]).run Tryz.prog wr = .ok (.int .i64 (n : Int)) wr := hln _
              have h0' : (0 : Int) ≤ (v : Int) := by omega
              have h1' : (v : Int) < (M.n : Int) := by omega
              have h2 : M.n ≤ 9223372036854775807 := by omega
              have gtlt := World.block_lt_of_cell? _ _ ktb
              by_cases hz : n = 0
              · have JN := Lib.hid (SKIP.out (ps.none HX.out s.sd.inv (by rw [HLEN.out]; exact hv) (hn0 hz)))
                subst hz
                clear s ps hj hc1 hx src hso hlen c4 SKIP S1 PS hln hn0
                go_wp2
                go_roundg (vs.length - (j + 1))
                case measure => have := HJ.out; omega
                case rel => exact JN.out
              · have hz' : (0 : Int) < (n : Int) := by omega
                have CALL := Lib.hid (s.sift SB.out hv)
                clear s ps hj hc1 hx src hso hlen c4 SKIP hln hn0 hz
                go_wp2_with fail
                refine CALL.out.mono ?_
                rintro e y ⟨s', goal, D', rfl, hs, hsv, sfd, ret⟩
                obtain ⟨bz, hbz⟩ : ∃ b, (!decide (goal = s')) = b := ⟨_, rfl⟩
                rw [hbz]
                cases bz with
                | false =>
                  have e : goal = s' := by simpa using hbz
                  obtain ⟨L3, s2⟩ := S1.out.ret ret (S1.out.sd.stay sfd e hs hsv)
                  have JN : Hid (SfI w d M vs t0 t1 E Gs (vs.length - (j + 1)) (.bool mv) (.bool ag) (.int .i64 ((j + 1 : Nat) : Int)) y) := Lib.hid ⟨j + 1, ag, mv, D', L3, by omega, rfl, rfl, rfl, s2, PS.out.stay HX.out S1.out.sd.inv.perm sfd e hs hsv⟩
                  clear s2 ret sfd hs hsv hbz e CALL S1 PS c0 c2 ktb hln' f1
                  go_wp2
                  go_roundg (vs.length - (j + 1))
                  case measure => have := HJ.out; omega
                  case rel => exact JN.out
                | true =>
                  have e : goal ≠ s' := by simpa using hbz
                  obtain ⟨L3, s2⟩ := S1.out.ret ret (S1.out.sd.goes sfd e hs hsv (List.mem_of_getElem? HX.out))
                  have JN : Hid (SfI w d M vs t0 t1 E Gs (vs.length - (j + 1)) (.bool true) (.bool true) (.int .i64 ((j + 1 : Nat) : Int)) y) := Lib.hid ⟨j + 1, true, true, D', L3, by omega, rfl, rfl, rfl, s2, PS.out.goes sfd e⟩
                  clear s2 ret sfd hs hsv hbz e CALL S1 PS c0 c2 ktb hln' f1
                  go_wp2
                  go_roundg (vs.length - (j + 1))
                  case measure => have := HJ.out; omega
                  case rel => exact JN.out
        · obtain rfl : j = vs.length := by omega
          have hge : ¬ (vs.length : Int) < vs.length := by omega
          have JN : Hid (SfO w d M vs t0 E Gs (if ag then D.total + 1 else 0) (.bool mv) (.bool ag) wr) := Lib.hid ⟨ag, mv, D, L2, rfl, rfl, rfl, s, fun e => by
            have := (ps.no e).2
            rwa [List.take_length] at this⟩
          have MS : Hid ((if ag then D.total + 1 else 0) < t1 + 1) := Lib.hid (by
            cases ag with
            | false => exact Nat.succ_pos _
            | true => have := ps.yes rfl; exact Nat.succ_lt_succ this)
          obtain ⟨gz, hgz⟩ : ∃ g, (if ag then D.total + 1 else 0) = g := ⟨_, rfl⟩
          rw [hgz] at JN MS
          clear s ps hj hlt S1 PS hgz
          go_wp2
          go_roundg gz
          case measure => have := MS.out; have := HG.out; omega
          case rel => exact JN.out

end Go.Proofs.YtngbodmooddjbaaGreat
