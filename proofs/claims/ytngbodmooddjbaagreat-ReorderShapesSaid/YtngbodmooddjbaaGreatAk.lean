/-
  Walks: 'Arrange'.
-/
import Derived.Test.YtngbodmooddjbaaGreatAp
import Derived.Test.YtngbodmooddjbaaGreatOrder
namespace Go.Proofs.YtngbodmooddjbaaGreat
open Go.RowKit

theorem newO_uq (l : List Nat) : (newO l).uq = fun _ => none := by
  funext x
  have h := congrFun (Mgr.new_uq 0) x
  exact h
theorem newO_sound (l : List Nat) {n : Nat} {F : Trip → Option Nat} (h : (Mgr.new n).Sound F) : (newO l).Sound F := fun x r hr => by
  obtain ⟨f, g, k, hx, sf, sg, sk, sr, hs⟩ := h x r hr
  have lt : ∀ {y : Nat}, (Mgr.new n).stored y → y < 2 := fun {y} hy => by
    rcases hy with hy | hy
    · exact hy
    · exact hy.1
  refine ⟨f, g, k, hx, .inl (lt sf), .inl (lt sg), .inl (lt sk), .inl (lt sr), fun a => ?_⟩
  have := hs a
  rw [Mgr.sem_const _ _ _ (lt sr), Mgr.sem_const _ _ _ (lt sf), Mgr.sem_const _ _ _ (lt sg), Mgr.sem_const _ _ _ (lt sk)] at this
  rw [Mgr.sem_const _ _ _ (lt sr), Mgr.sem_const _ _ _ (lt sf), Mgr.sem_const _ _ _ (lt sg), Mgr.sem_const _ _ _ (lt sk)]
  exact this

/-- Only the cells of 'level' change. -/
theorem Raw.kpLevel {w w' : World} {p : Nat} {L : Lay} {order level : List Nat} {nodes : List Nd} {shown : List Bool} {free : List Nat} {U F : Trip → Option Nat} (R : Raw w p L order level nodes shown free U F) (hk : Kp (fun k => L.sl.ownBlock = some k) w w') (level' : List Nat)
    (hn : w'.ownsRow 0 3 1 L.sl level'.length (level'.map natV)) (hd : ∀ k, L.so.ownBlock = some k → L.sl.ownBlock ≠ some k) : Raw w' p L order level' nodes shown free U F := by
  have row : ∀ {e s n u x}, e ≠ 3 → w.ownsRow 0 e s u n x → w'.ownsRow 0 e s u n x := fun h1 h => ownsRow_kp h hk (fun k e x => row_ne h R.level h1 e x)
  exact {
    mgr := (hk.block p R.plt (R.row_mgr R.level (by decide))).trans R.mgr
    order := ownsRow_kp R.order hk hd
    level := hn
    nodes := row (by decide) R.nodes
    shown := row (by decide) R.shown
    free := row (by decide) R.free
    uniq := R.uniq.kp hk (row_map R.level R.uniq)
    memo := R.memo.kp hk (row_map R.level R.memo)
    ne := R.ne }

/-- The state of the new manager while its levels are written. -/
structure ArL (w : World) (q : Nat) (LN : Lay) (l : List Nat) (F : Trip → Option Nat) (k : Nat) (y : World) : Prop where
  raw : Raw y q LN l (lvO l k) [(-1, 0, 0), (-1, 0, 0)] [true, true] [] (fun _ => none) F
  kp : Kp No w y
  own : ∀ x, LN.at q x → w.heap.size ≤ x
  ne : ∀ k, LN.so.ownBlock = some k → LN.sl.ownBlock ≠ some k
def ArLR (w : World) (q : Nat) (LN : Lay) (l : List Nat) (F : Trip → Option Nat) (gk : Nat) (s : Value) (y : World) : Prop := ∃ k, k + gk = l.length ∧ s = .int .i64 (k : Int) ∧ ArL w q LN l F k y
theorem ArL.step {w : World} {q : Nat} {LN : Lay} {l : List Nat} {F : Trip → Option Nat} {k : Nat} {y : World} {g cap : Nat} (s : ArL w q LN l F k y) (hl : LN.sl = .slice (some ⟨g, 0, none⟩) l.length cap) :
    ArL w q LN l F (k + 1) (y.setCell ⟨g, l.getD k 0, none⟩ (.int .i64 (k : Int))) := by
  have k1 : Kp (fun z => z = g) y (y.setCell ⟨g, l.getD k 0, none⟩ (.int .i64 (k : Int))) := (Kp.setCell _ _).mono (fun _ _ e => e)
  have hg : LN.sl.ownBlock = some g := by rw [hl]; rfl
  refine ⟨s.raw.kpLevel (k1.mono (fun b _ e => by rw [e]; exact hg)) _ ?_ s.ne, s.kp.trans (A := No) (A' := fun z => z = g) (fun z e => .inr (by rw [e]; exact s.own g (by simp [Lay.at, hg]))) k1, s.own, s.ne⟩
  have h := s.raw.level
  rw [lvO_len, hl] at h
  have h2 := ownsRow_store h (l.getD k 0) (.int .i64 (k : Int))
  have e : (lvO l (k + 1)).map natV = ((lvO l k).map natV).set (l.getD k 0) (.int .i64 (k : Int)) := by
    show ((lvO l k).set (l.getD k 0) k).map natV = _
    rw [List.map_set]; rfl
  rw [lvO_len, hl, e]
  exact h2

/-- The functions that are visible. -/
def visF (M : Mgr) : List Nat := (List.range M.shown.length).filter fun f => M.vis f
def visB (M : Mgr) : List Bfn := (visF M).map M.sem
theorem mem_visB {M : Mgr} {f : Nat} (h : M.vis f = true) : M.sem f ∈ visB M := by
  refine List.mem_map.2 ⟨f, List.mem_filter.2 ⟨List.mem_range.2 ?_, h⟩, rfl⟩
  rcases Nat.lt_or_ge f M.shown.length with h1 | h1
  · exact h1
  · unfold Mgr.vis at h
    rw [List.getD_eq_getElem?_getD, List.getElem?_eq_none h1] at h
    cases h
theorem visB_len {M N : Mgr} (hM : M.WF) {l : List Nat} (hl : l.length = M.n) (h : Mgr.Adds (newO l) N (ArF l.length (visB M))) : N.nodes.length ≤ (visF M).length * 3 ^ M.n + M.n + 2 := by
  have h1 := h.len (Listed.arF (visB M) (fun F hF => by
    obtain ⟨f, hf, rfl⟩ := List.mem_map.1 hF
    rw [hl]
    exact Mgr.sem_rd hM (hM.shst f (by simpa using (List.mem_filter.1 hf).2))))
  have h2 : (newO l).nodes.length = 2 := rfl
  rw [h2, hl, visB, List.length_map] at h1
  omega

/-- The state in the loop over what is visible. -/
structure ArJ (w : World) (M : Mgr) (l : List Nat) (q bi bn : Nat) (X : List (Nat × Obj)) (j : Nat) (rv : Value) (y : World) (N : Mgr) (LN : Lay) (R : List Nat) (K0 : Int → Option Nat) : Prop where
  sk : Sk y q LN bi X (ImMemo M bi) y N LN
  ad : Mgr.Adds (newO l) N (ArF l.length (visB M))
  row : y.ownsRow w.heap.size 40 1 rv R.length (R.map natV)
  rb : ∀ b, rv.ownBlock = some b → ¬ LN.at q b
  map : MapAs y bn intV natV K0
  kp : Kp No w y
  own : ∀ x, LN.at q x → w.heap.size ≤ x
  nb : ¬ LN.at q bn
  hb : w.heap.size ≤ bn ∧ bn ≠ bi
  hi : w.heap.size ≤ bi
  st : ∀ r, r ∈ R → N.stored r
  rl : R.length ≤ j
  k1 : ∀ x f, K0 x = some f → ∃ g : Nat, x = (g : Int) ∧ N.stored g ∧ M.vis f = true ∧ ∀ a, N.sem g a = M.sem f a
  k2 : ∀ f, M.vis f = true → f < 2 ∨ f < j → ∃ g : Nat, K0 (g : Int) = some f ∧ (g < 2 ∨ g ∈ R)
def ArR (w : World) (M : Mgr) (l : List Nat) (q bi bn : Nat) (X : List (Nat × Obj)) (gk : Nat) (s9 s45 : Value) (y : World) : Prop :=
  ∃ j N LN R K0, j + gk = M.shown.length ∧ s45 = .int .i64 (j : Int) ∧ ArJ w M l q bi bn X j s9 y N LN R K0

section
variable {w : World} {M : Mgr} {l : List Nat} {q bi bn : Nat} {X : List (Nat × Obj)} {j : Nat} {rv : Value} {y : World} {N : Mgr} {LN : Lay} {R : List Nat} {K0 : Int → Option Nat}
theorem ArJ.skip (s : ArJ w M l q bi bn X j rv y N LN R K0) (h : M.vis j = false) : ArJ w M l q bi bn X (j + 1) rv y N LN R K0 :=
  ⟨s.sk, s.ad, s.row, s.rb, s.map, s.kp, s.own, s.nb, s.hb, s.hi, s.st, by have := s.rl; omega, s.k1, fun f hf hlt => s.k2 f hf (by
    rcases hlt with h1 | h1
    · exact .inl h1
    · right
      rcases Nat.lt_or_ge f j with h2 | h2
      · exact h2
      · have : f = j := by omega
        rw [this, h] at hf
        cases hf)⟩
/-- The state behind 'rebuild' and the naming, ahead of the append. -/
structure ArM (w : World) (M : Mgr) (l : List Nat) (q bi bn : Nat) (X : List (Nat × Obj)) (j : Nat) (rv : Value) (y : World) (N : Mgr) (LN : Lay) (R : List Nat) (r : Nat) (K0 : Int → Option Nat) : Prop where
  sk : Sk y q LN bi X (ImMemo M bi) y N LN
  ad : Mgr.Adds (newO l) N (ArF l.length (visB M))
  row : y.ownsRow w.heap.size 40 1 rv R.length (R.map natV)
  rb : ∀ b, rv.ownBlock = some b → ¬ LN.at q b
  map : MapAs y bn intV natV K0
  kp : Kp No w y
  own : ∀ x, LN.at q x → w.heap.size ≤ x
  nb : ¬ LN.at q bn
  hb : w.heap.size ≤ bn ∧ bn ≠ bi
  hi : w.heap.size ≤ bi
  st : ∀ x, x ∈ R ++ [r] → N.stored x
  rl : R.length ≤ j
  k1 : ∀ x f, K0 x = some f → ∃ g : Nat, x = (g : Int) ∧ N.stored g ∧ M.vis f = true ∧ ∀ a, N.sem g a = M.sem f a
  k2 : ∀ f, M.vis f = true → f < 2 ∨ f < j + 1 → ∃ g : Nat, K0 (g : Int) = some f ∧ (g < 2 ∨ g ∈ R ++ [r])
theorem ArJ.built {y1 y2 : World} {N1 : Mgr} {L1 : Lay} {r : Nat} (hM : M.WF) (s : ArJ w M l q bi bn X j rv y N LN R K0) (hv : M.vis j = true) (t : Sk y q LN bi X (ImMemo M bi) y1 N1 L1) (a : Mgr.Adds N N1 (ArF l.length (visB M))) (st : N1.stored r) (e : ∀ a, N1.sem r a = M.sem j a)
    (m : MapAs y2 bn intV natV (fun x => if x = (r : Int) then some j else K0 x)) (k : Kp (fun z => z = bn) y1 y2) (hbX : ∀ b o, (b, o) ∈ X → b ≠ bn) : ArM w M l q bi bn X j rv y2 N1 L1 R r (fun x => if x = (r : Int) then some j else K0 x) := by
  have hsz := s.kp.size
  have own1 : ∀ x, L1.at q x → w.heap.size ≤ x := fun x hx => by
    rcases t.fr x hx with h | h
    · exact s.own x h
    · omega
  have nb1 : ¬ L1.at q bn := fun hx => by
    rcases t.fr bn hx with h | h
    · exact s.nb h
    · have := s.map.lt; omega
  have rowo : ∀ b, rv.ownBlock = some b → ¬ L1.at q b ∧ b ≠ bi ∧ b ≠ bn := fun b hb => by
    obtain ⟨c, hc⟩ := ownsRow_block s.row hb
    refine ⟨fun hx => ?_, fun e2 => ?_, fun e2 => ?_⟩
    · rcases t.fr b hx with h | h
      · exact s.rb b hb h
      · have := heap_lt hc; omega
    · obtain ⟨K, hm, _⟩ := s.sk.memo
      obtain ⟨es, cl, h1, _⟩ := hm
      rw [← e2, hc] at h1
      cases h1
    · obtain ⟨es, cl, h1, _⟩ := s.map
      rw [← e2, hc] at h1
      cases h1
  have kk : Kp (fun z => (LN.at q z ∨ z = bi) ∨ z = bn) y y2 := (t.kp.mono (fun z _ h => .inl h)).trans (A' := fun z => (LN.at q z ∨ z = bi) ∨ z = bn) (fun z h => .inl h) (k.mono (fun z _ h => .inr h))
  have s2 : Sk y2 q L1 bi X (ImMemo M bi) y2 N1 L1 := by
    refine ⟨t.rep.kp k (fun z e2 => by rw [e2]; exact nb1), Kp.refl _ _, fun _ h => .inl h, ?_, Nat.lt_of_lt_of_le t.lt k.size, t.nb, fun b o hb => ?_⟩
    · exact ImMemo.iok M bi N1 N1 y1 y2 _ t.rep.wf (.refl N1) k (fun e2 => s.hb.2 e2.symm) t.memo
    · obtain ⟨h1, h2, h3⟩ := t.keep b o hb
      exact ⟨by rw [k.block b (heap_lt h1) (hbX b o hb)]; exact h1, h2, h3⟩
  refine ⟨s2, s.ad.trans a, ownsRow_kp s.row kk (fun b hb h => ?_), fun b hb => (rowo b hb).1, m, s.kp.trans (A := No) (A' := fun z => (LN.at q z ∨ z = bi) ∨ z = bn) (fun z h => .inr ?_) kk, own1, nb1, s.hb, s.hi, fun x hx => ?_, s.rl, fun x f hf => ?_, fun f hf hlt => ?_⟩
  · rcases h with (h | h) | h
    · exact s.rb b hb h
    · exact (rowo b hb).2.1 h
    · exact (rowo b hb).2.2 h
  · rcases h with (h | h) | h
    · exact s.own z h
    · rw [h]; exact s.hi
    · rw [h]; exact s.hb.1
  · rcases List.mem_append.1 hx with hx | hx
    · exact a.ext.stored (s.st x hx)
    · rw [List.mem_singleton.1 hx]; exact st
  · have hf' : (if x = (r : Int) then some j else K0 x) = some f := hf
    by_cases hx : x = (r : Int)
    · rw [if_pos hx] at hf'
      cases hf'
      exact ⟨r, hx, st, hv, e⟩
    · rw [if_neg hx] at hf'
      obtain ⟨g, h1, h2, h3, h4⟩ := s.k1 x f hf'
      exact ⟨g, h1, a.ext.stored h2, h3, fun b => by rw [a.ext.sem s.ad.wf h2, h4]⟩
  · by_cases hj : f = j
    · subst hj
      exact ⟨r, by show (if ((r : Nat) : Int) = (r : Int) then some f else _) = _; rw [if_pos rfl], .inr (by simp)⟩
    · obtain ⟨g, h1, h2⟩ := s.k2 f hf (by omega)
      have hgr : ¬ ((g : Int) = (r : Int)) := fun e2 => by
        have e3 : g = r := by omega
        obtain ⟨g', q1, q2, _, q4⟩ := s.k1 _ _ h1
        have : g' = g := by omega
        subst this
        refine hj (Mgr.canon hM (hM.shst f hf) (hM.shst j hv) (fun b => ?_))
        rw [← q4, ← e, ← e3, a.ext.sem s.ad.wf q2]
      refine ⟨g, by show (if ((g : Nat) : Int) = (r : Int) then some j else _) = _; rw [if_neg hgr]; exact h1, ?_⟩
      rcases h2 with h2 | h2
      · exact .inl h2
      · exact .inr (List.mem_append.2 (.inl h2))
/-- The append. -/
theorem ArM.push {y1 z : World} {r g cap : Nat} (s : ArM w M l q bi bn X j rv y N LN R r K0) (ka : Kp No y y1) (hg : y1.grownBy z rv.ownBlock) (hat : rv.ownBlock = some g ∨ y.heap.size ≤ g)
    (hown : z.ownsRow w.heap.size 40 1 (.slice (some ⟨g, 0, none⟩) (R.length + 1) cap) (R.length + 1) (R.map natV ++ [.int .i64 (r : Int)])) (hbX : ∀ b o, (b, o) ∈ X → rv.ownBlock ≠ some b) :
    ArJ w M l q bi bn X (j + 1) (.slice (some ⟨g, 0, none⟩) (R.length + 1) cap) z N LN (R ++ [r]) K0 := by
  have k : Kp (fun b => rv.ownBlock = some b) y z := grown_no ka hg
  have off : ∀ {b : Nat} {es : Array MapEntry} {cl : Nat}, y.heap[b]? = some (.map es cl) → rv.ownBlock ≠ some b := fun {b es cl} h e => by
    obtain ⟨c, hc⟩ := ownsRow_block s.row e
    rw [hc] at h
    cases h
  have obn : rv.ownBlock ≠ some bn := by
    obtain ⟨es, cl, h1, _⟩ := s.map
    exact off h1
  have obi : rv.ownBlock ≠ some bi := by
    obtain ⟨K, hm, _⟩ := s.sk.memo
    obtain ⟨es, cl, h1, _⟩ := hm
    exact off h1
  refine ⟨⟨s.sk.rep.kp k (fun b e h => s.rb b e h), Kp.refl _ _, fun _ h => .inl h, ImMemo.iok M bi N N y z _ s.sk.rep.wf (.refl N) k obi s.sk.memo, Nat.lt_of_lt_of_le s.sk.lt k.size, s.sk.nb, fun b o hb => ?_⟩, s.ad, ?_, fun b hb => ?_, s.map.kp k obn, s.kp.trans (A := No) (A' := fun b => rv.ownBlock = some b) (fun b h => .inr (s.row.lt b h).1) k, s.own, s.nb, s.hb, s.hi, s.st, ?_, s.k1, s.k2⟩
  · obtain ⟨h1, h2, h3⟩ := s.sk.keep b o hb
    exact ⟨by rw [k.block b (heap_lt h1) (hbX b o hb)]; exact h1, h2, h3⟩
  · rw [List.length_append, List.map_append]
    exact hown
  · simp only [Value.ownBlock, Option.some.injEq] at hb
    have e : g = b := by simpa [Value.ownBlock] using hb
    subst e
    rcases hat with h | h
    · exact s.rb _ h
    · intro hx
      have := s.sk.rep.lt _ hx
      omega
  · have := s.rl
    rw [List.length_append]
    simp only [List.length_cons, List.length_nil]
    omega
end

/-- What the two maps hold at first. -/
def arK : Int → Option Nat := fun x => if x = 1 then some 1 else if x = 0 then some 0 else none
theorem arK_some {x : Int} {r : Nat} (h : arK x = some r) : x = (r : Int) ∧ r < 2 := by
  unfold arK at h
  split at h
  · injection h with h; omega
  · split at h
    · injection h with h; omega
    · cases h
theorem ArJ.start {w wr W7 : World} {p : Nat} {M : Mgr} {L : Lay} {l : List Nat} {q bi bn : Nat} {X : List (Nat × Obj)} {LN : Lay} (R : Rep w p M L) (hp : PermL l) (rq : Rep wr q (newO l) LN) (kw : Kp No w wr) (own : ∀ x, LN.at q x → w.heap.size ≤ x) (mi : MapAs W7 bi intV natV arK) (mn : MapAs W7 bn intV natV arK)
    (k : Kp No wr W7) (hbi : wr.heap.size ≤ bi) (hbn : wr.heap.size ≤ bn) (ne : bn ≠ bi) (hX : ∀ b o, (b, o) ∈ X → w.heap[b]? = some o) : ArJ w M l q bi bn X 0 (.slice none 0 0) W7 (newO l) LN [] arK := by
  have hs := kw.size
  have W := R.wf
  have vis2 : ∀ r, r < 2 → M.vis r = true := fun r hr => by
    have : r = 0 ∨ r = 1 := by omega
    rcases this with rfl | rfl
    · exact W.sh0
    · exact W.sh1
  refine ⟨⟨rq.no k, Kp.refl _ _, fun _ h => .inl h, ⟨arK, mi, rfl, rfl, fun x r h => ?_⟩, mi.lt, fun h => ?_, fun b o hb => ?_⟩, Mgr.Adds.refl (newO_wf hp) _, World.ownsRow_nil _ _ _ _, fun b h => (by simp [Value.ownBlock] at h), mn, kw.trans_no k, own, fun h => ?_, ⟨by omega, ne⟩, by omega, fun r h => (by cases h), Nat.le_refl _, fun x f h => ?_, fun f _ hlt => ?_⟩
  · obtain ⟨h1, h2⟩ := arK_some h
    exact ⟨r, h1, .inl h2, .inl h2, fun a => by rw [Mgr.sem_const _ _ _ h2, Mgr.sem_const _ _ _ h2]⟩
  · have := rq.lt _ h
    omega
  · have h1 := hX b o hb
    have h2 := heap_lt h1
    refine ⟨by rw [(kw.trans_no k).block b h2 (fun x => x)]; exact h1, fun h => by have := own b h; omega, by omega⟩
  · have := rq.lt _ h
    omega
  · obtain ⟨h1, h2⟩ := arK_some h
    exact ⟨f, h1, .inl h2, vis2 f h2, fun a => by rw [Mgr.sem_const _ _ _ h2, Mgr.sem_const _ _ _ h2]⟩
  · have h2 : f < 2 := by omega
    refine ⟨f, ?_, .inl h2⟩
    have : f = 0 ∨ f = 1 := by omega
    rcases this with rfl | rfl <;> rfl

theorem rbK_of {w : World} {p : Nat} {M : Mgr} {L : Lay} (R : Rep w p M L) : ∃ gn cn X, RbK p gn cn M X ∧ (∀ b o, (b, o) ∈ X → w.heap[b]? = some o) := by
  obtain ⟨F, raw, _⟩ := R.raw
  obtain ⟨gn, cn, hv, _, _, hc⟩ := raw.node_cells R.wf
  obtain ⟨cur, hcur⟩ := ownsRow_block raw.nodes (k := gn) (by rw [hv]; rfl)
  have mg := raw.mgr
  refine ⟨gn, cn, [(p, .cells #[L.so, L.sl, L.sn, L.ss, L.sf, .map (some L.bu), .map (some L.bm), .map (some L.bc)] 66 (0, 0)), (gn, .cells cur 60 (0, 0))], ⟨_, cur, _, _, List.mem_cons_self, List.mem_cons_of_mem _ List.mem_cons_self, by rw [← hv]; rfl, fun f hf => ?_⟩, fun b o hb => ?_⟩
  · obtain ⟨h0, h1, h2⟩ := hc f hf
    rw [cell_of_row _ _ _ _ _ _ hcur] at h0 h1 h2
    exact ⟨h0, h1, h2⟩
  · rcases List.mem_cons.1 hb with e | hb
    · cases e; exact mg
    · rw [List.mem_singleton.1 hb |> Prod.mk.inj |>.1, List.mem_singleton.1 hb |> Prod.mk.inj |>.2]; exact hcur

def ArPost (w : World) (p : Nat) (M : Mgr) (L : Lay) (l : List Nat) (e : Ending) (w' : World) : Prop :=
  e = .returned (.tuple #[]) ∧ ∃ (M' : Mgr) (L' : Lay), Rep w' p M' L' ∧ M'.order = l ∧ (∀ f, M'.vis f = M.vis f) ∧ (∀ f, M.vis f = true → ∀ a, M'.sem f a = M.sem f a) ∧ M'.nodes.length ≤ M.nodes.length + ((visF M).length * 3 ^ M.n + M.n + 2) ∧
    Kp (L.at p) w w' ∧ ∀ k, L'.at p k → L.at p k ∨ w.heap.size ≤ k

theorem arrange_end {w y w' : World} {p : Nat} {M : Mgr} {L : Lay} {l : List Nat} {q bi bn : Nat} {X : List (Nat × Obj)} {rv : Value} {N : Mgr} {LN : Lay} {R : List Nat} {K0 : Int → Option Nat} {e : Ending} (Rp : Rep w p M L) (hl : l.length = M.n) (s : ArJ w M l q bi bn X M.shown.length rv y N LN R K0)
    (h : AdPost y p M L q N LN bn e w') : ArPost w p M L l e w' := by
  obtain ⟨he, V, nu, num, L', nm, hnum, rep, kp, fr⟩ := h
  have hlen := visB_len Rp.wf hl s.ad
  have hsz := s.kp.size
  refine ⟨he, _, L', rep, ?_, fun f => Mgr.adM_vis f, fun f hf a => Mgr.adM_old Rp.wf s.sk.rep.wf nm hf a, ?_, ?_, fun k hk => ?_⟩
  · exact s.ad.ext.order
  · rw [Mgr.adM_len]
    omega
  · refine s.kp.no_trans (kp.mono (fun k hk h => h)) |>.mono (fun k hk h => ?_)
    rcases h with h | h | h
    · exact h
    · have := s.own k h; omega
    · have := s.hb.1; omega
  · rcases fr k hk with h | h | h
    · exact .inl h
    · exact .inr (s.own k h)
    · right; omega

theorem ArJ.ads {w y : World} {p : Nat} {M : Mgr} {L : Lay} {l : List Nat} {q bi bn : Nat} {X : List (Nat × Obj)} {rv : Value} {N : Mgr} {LN : Lay} {R : List Nat} {K0 : Int → Option Nat} (Rp : Rep w p M L) (hl : l.length = M.n) (hb : (visF M).length * 3 ^ M.n + M.n + 2 ≤ big) (hm : M.nodes.length ≤ 500000000000)
    (s : ArJ w M l q bi bn X M.shown.length rv y N LN R K0) : AdS y p M L q N LN R rv bn K0 := by
  have hlen := visB_len Rp.wf hl s.ad
  have hrl := s.rl
  have hsh := Rp.wf.sh
  have hbig : big = 4398046511104 := rfl
  have low : ∀ k, L.at p k → k < w.heap.size := fun k h => Rp.lt k h
  refine ⟨Rp.no s.kp, s.sk.rep, ?_, SrcAt.of_row s.row, s.map, s.st, s.k1, fun f hf => ?_, fun k h1 h2 => ?_, fun h => ?_, s.nb, by omega, by omega, by omega⟩
  · rw [← hl]; exact s.ad.ext.n
  · refine s.k2 f hf (.inr ?_)
    rcases Nat.lt_or_ge f M.shown.length with h | h
    · exact h
    · unfold Mgr.vis at hf
      rw [List.getD_eq_getElem?_getD, List.getElem?_eq_none h] at hf
      cases hf
  · have := low k h1; have := s.own k h2; omega
  · have := low bn h; have := s.hb.1; omega

end Go.Proofs.YtngbodmooddjbaaGreat

namespace Go.Proofs.YtngbodmooddjbaaGreat
open Go.RowKit

theorem natsAt_get {l : List Nat} {i : Nat} (h : i < l.length) : (l.map natV)[i]? = some (natV (l.getD i 0)) := by simp [h]

set_option maxRecDepth 1000000 in
set_option maxHeartbeats 8000000 in
theorem Arrange_ok {w : World} {p : Nat} {M : Mgr} {L : Lay} {l : List Nat} {ov : Value} (R : Rep w p M L) (hp : PermL l) (hl : l.length = M.n) (hn : M.n ≤ 256) (src : SrcAt w ov 1 l.length (l.map natV))
    (hb : (visF M).length * 3 ^ M.n + M.n + 2 ≤ big) (hm : M.nodes.length ≤ 500000000000) :
    Calls Tryz.prog 60 #[ptr p, ov] w (ArPost w p M L l) := by
  obtain ⟨i0, hi0, hz0, hz1, hz2⟩ := info_parts info_ref0
  have RR := Lib.hid R
  have HP := Lib.hid hp
  have HL := Lib.hid hl
  have SRC := Lib.hid src
  have HB := Lib.hid hb
  have HM := Lib.hid hm
  have hl256 : l.length ≤ 256 := by omega
  have plt := R.plt
  obtain ⟨gn, cn, X, rbk, hX⟩ := rbK_of R
  have RBK := Lib.hid rbk
  have HX := Lib.hid hX
  have ENV : Hid (nvars (l.length : Int) = l.length) := Lib.hid (by unfold nvars; rw [if_neg (by omega), if_neg (by omega)]; omega)
  have NEW : Hid (Calls Tryz.prog 6 #[.int .i64 (l.length : Int)] w (NewPost' w l.length)) := Lib.hid (by have := New_ok (l.length : Int) w; rw [ENV.out] at this; exact this)
  obtain ⟨ao, co, rfl⟩ := src.form
  have hmm := @run_makeMap Tryz.prog
  have HMM := Lib.hid hmm
  clear R hp hl src hb hm rbk hX hmm hn
  go_enter Tryz.func60, Tryz.ntmps60
  go_wp2_with fail
  refine NEW.out.mono ?_
  rintro e w1 ⟨q, L0, rfl, rq, k1, own0⟩
  have HC := Lib.hid (Clone_ok (SRC.out.no k1) (fun x hx => by obtain ⟨y, _, rfl⟩ := List.mem_map.1 hx; rfl) (by omega))
  have RQ := Lib.hid rq
  have K1 := Lib.hid k1
  have OWN0 := Lib.hid own0
  clear rq k1 own0 NEW
  go_wp2_with fail
  refine HC.out.mono ?_
  rintro e w2 ⟨so, rfl, orow, k2⟩
  obtain ⟨ak, ck, rfl, _⟩ := ownsRow_len (row_zero orow)
  obtain ⟨F, raw, sound⟩ := (RQ.out.no k2).raw
  rw [Mgr.new_uq] at raw
  have c0 := raw.c0
  have z0 := raw.fz 0
  have qlt := raw.plt
  have HSND := Lib.hid (newO_sound l sound)
  have RAW := Lib.hid (raw.setOrder (row_zero orow))
  have L0S : Hid (ArL w q { L0 with so := .slice ak l.length ck } l F 0 (w2.setCell ⟨q, 0, none⟩ (.slice ak l.length ck))) := Lib.hid (by
    refine ⟨RAW.out, (K1.out.trans_no k2).trans (A := No) (A' := fun z => z = q) (fun z e => .inr (by rw [e]; exact OWN0.out q (.inl rfl))) ((Kp.setCell _ _).mono (fun _ _ e => e)), fun x hx => ?_, fun k e1 e2 => ?_⟩
    · have hs := K1.out.size
      rcases hx with h | h | h | h | h
      · exact OWN0.out x (.inl h)
      · exact OWN0.out x (.inr (.inl h))
      · exact OWN0.out x (.inr (.inr (.inl h)))
      · have := (orow.lt x h).1; omega
      · exact OWN0.out x (.inr (.inr (.inr (.inr h))))
    · have h1 := (orow.lt k e1).1
      have h2 := RQ.out.lt k (.inr (.inr (.inr (.inr (.inl e2)))))
      omega)
  clear raw sound orow HC k2 RAW RQ K1 OWN0
  generalize ({ L0 with so := .slice ak l.length ck } : Lay) = LN at *
  go_upto_region 2 with fail
  clear c0 z0 qlt
  generalize (w2.setCell ⟨q, 0, none⟩ (.slice ak l.length ck)) = w3 at *
  go_wp2_with fail
  have A0 : Hid (ArLR w q LN l F l.length (.int .i64 0) w3) := Lib.hid ⟨0, by omega, rfl, L0S.out⟩
  go_loopg [23] l.length (fun gk s y => ArLR w q LN l F gk s y)
  case atStart => exact A0.out
  case round =>
    clear A0
    obtain ⟨k, hk, rfl, S⟩ := hrel
    have HK := Lib.hid hk
    have SA := Lib.hid S
    by_cases hlt : k < l.length
    · have hlti : (k : Int) < l.length := by omega
      obtain ⟨go, oo, cc, hv, glt, hc⟩ := (SRC.out.no S.kp).cellAt (by omega)
      cases hv
      have d1 := hc k (natV (l.getD k 0)) (by simp [hlt])
      have c1 := S.raw.c1
      have qlt := S.raw.plt
      have lrow := S.raw.level
      rw [lvO_len] at lrow
      obtain ⟨gl, cl, hsl, _, _, _, hcl, hzl⟩ := ownsRow_open lrow (by omega)
      rw [hsl] at c1
      have vlt : l.getD k 0 < l.length := HP.out.lt hlt
      have e1 := hcl (l.getD k 0) (natV ((lvO l k).getD (l.getD k 0) 0)) (natsAt_get (by rw [lvO_len]; exact vlt))
      have e2 := hzl (l.getD k 0)
      have gl2 := World.block_lt_of_cell? _ _ e1
      have hkl : k + 1 ≤ 256 := by omega
      have JN : Hid (ArLR w q LN l F (l.length - (k + 1)) (.int .i64 ((k + 1 : Nat) : Int)) (wr.setCell ⟨gl, l.getD k 0, none⟩ (.int .i64 (k : Int)))) := Lib.hid ⟨k + 1, by have := HK.out; omega, rfl, SA.out.step hsl⟩
      have hvi : ((l.getD k 0 : Nat) : Int) < l.length := by omega
      unfold natV at d1 e1
      clear hk S hc lrow hcl hzl hsl vlt L0S
      generalize (lvO l k).getD (l.getD k 0) 0 = old at *
      generalize l.getD k 0 = v at *
      go_wp2_with fail
      go_roundg (l.length - (k + 1))
      case measure => have := HK.out; omega
      case rel => exact JN.out
    · obtain rfl : k = l.length := by omega
      have Y1 := Lib.hid SA.out
      clear hk S SA L0S hlt HK
      have RQ : Hid (Rep wr q (newO l) LN) := Lib.hid ⟨⟨F, by have := Y1.out.raw; rw [newO_uq]; exact this, HSND.out⟩, newO_wf HP.out⟩
      have m0 := MapAs.empty wr intV natV
      obtain ⟨W4, up4, m4, k4, s4⟩ := m0.update keyRef Tryz.underlying105 (0 : Int) 0
      obtain ⟨W5, up5, m5, k5, s5⟩ := m4.update keyRef Tryz.underlying105 (1 : Int) 1
      have u4 : (Instr.mapUpdate 105 (.map (some wr.heap.size)) (.int .i64 0) (.int .i64 0)).run Tryz.prog (wr.alloc (.map #[] 0)) = .ok () W4 := up4 0
      have u5 : (Instr.mapUpdate 105 (.map (some wr.heap.size)) (.int .i64 1) (.int .i64 1)).run Tryz.prog W4 = .ok () W5 := up5 0
      have n0 := MapAs.empty W5 intV natV
      obtain ⟨W6, up6, m6, k6, s6⟩ := n0.update keyRef Tryz.underlying105 (0 : Int) 0
      obtain ⟨W7, up7, m7, k7, s7⟩ := m6.update keyRef Tryz.underlying105 (1 : Int) 1
      have u6 : (Instr.mapUpdate 105 (.map (some W5.heap.size)) (.int .i64 0) (.int .i64 0)).run Tryz.prog (W5.alloc (.map #[] 0)) = .ok () W6 := up6 0
      have u7 : (Instr.mapUpdate 105 (.map (some W5.heap.size)) (.int .i64 1) (.int .i64 1)).run Tryz.prog W6 = .ok () W7 := up7 0
      have s3 : (wr.alloc (.map #[] 0)).heap.size = wr.heap.size + 1 := by simp
      have s5' : W5.heap.size = wr.heap.size + 1 := by rw [s5, s4, s3]
      have kA : Kp No wr W5 := (Kp.alloc (.map #[] 0)).trans (A := No) (A' := fun z => z = wr.heap.size) (fun z e => .inr (by omega)) (k4.trans (A' := fun z => z = wr.heap.size) (fun z e => .inl e) k5)
      have kB : Kp No W5 W7 := (Kp.alloc (.map #[] 0)).trans (A := No) (A' := fun z => z = W5.heap.size) (fun z e => .inr (by omega)) (k6.trans (A' := fun z => z = W5.heap.size) (fun z e => .inl e) k7)
      have J0 : Hid (ArJ w M l q wr.heap.size W5.heap.size X 0 (.slice none 0 0) W7 (newO l) LN [] arK) := Lib.hid
        (ArJ.start RR.out HP.out RQ.out Y1.out.kp Y1.out.own (m5.kp kB (fun x => x)) m7 (kA.trans_no kB) (Nat.le_refl _) (by omega) (by omega) HX.out)
      have hnbi : Hid (wr.heap.size ≤ W5.heap.size) := Lib.hid (by omega)
      clear up4 up5 up6 up7 m0 m4 m5 m6 m7 n0 k4 k5 k6 k7 s3 s4 s5 s6 s7 s5' kA kB Y1 RQ
      obtain ⟨F9, raw9, _⟩ := (RR.out.no J0.out.kp).raw
      have c3 := raw9.c3
      obtain ⟨bs, cs, hss, hcs1, hcs2, _, hcs, _⟩ := ownsRow_open raw9.shown (by rw [RR.out.wf.sh]; have := RR.out.wf.two; omega)
      rw [hss] at c3
      have plt7 := raw9.plt
      have hsl7 : M.shown.length ≤ 500000000000 := by rw [RR.out.wf.sh]; exact HM.out
      clear raw9 hcs hcs1 hcs2
      have HSS := Lib.hid hss
      clear hss
      have hmm := HMM.out
      go_wp2_with fail
      clear u4 u5 u6 u7 hmm
      generalize wr.heap.size = bi at *
      generalize W5.heap.size = bn at *
      have R0 : Hid (ArR w M l q bi bn X M.shown.length (.slice none 0 0) (.int .i64 0) W7) := Lib.hid ⟨0, _, _, _, _, by omega, rfl, J0.out⟩
      go_loopg [9, 45] M.shown.length (fun gk s9 s45 y => ArR w M l q bi bn X gk s9 s45 y)
      case atStart => exact R0.out
      case round =>
        clear R0 J0
        obtain ⟨j, N, LN', Rs, K0, hj, rfl, J⟩ := hrel
        have HJ := Lib.hid hj
        have JJ := Lib.hid J
        obtain ⟨ar, cr, rfl, hrm⟩ := ownsRow_len (row_zero J.row)
        by_cases hlt2 : j < M.shown.length
        · have hlti2 : (j : Int) < M.shown.length := by omega
          obtain ⟨F8, raw8, _⟩ := (RR.out.no J.kp).raw
          obtain ⟨bs', cs', hss', _, _, _, hcs, _⟩ := ownsRow_open raw8.shown (by omega)
          rw [HSS.out] at hss'
          cases hss'
          have d1 := hcs j (.bool (M.shown.getD j false)) (by simp [hlt2])
          have dl := World.block_lt_of_cell? _ _ d1
          have hRl := J.rl
          have hjl : j + 1 ≤ 500000000000 := by omega
          clear raw8 hcs hj
          cases hv : M.shown.getD j false with
          | false =>
            rw [hv] at d1
            have JN : Hid (ArR w M l q bi bn X (M.shown.length - (j + 1)) (.slice ar Rs.length cr) (.int .i64 ((j + 1 : Nat) : Int)) wr) := Lib.hid ⟨j + 1, N, LN', Rs, K0, by have := HJ.out; omega, rfl, JJ.out.skip hv⟩
            clear J hv
            go_wp2_with fail
            go_roundg (M.shown.length - (j + 1))
            case measure => have := HJ.out; omega
            case rel => exact JN.out
          | true =>
            rw [hv] at d1
            have HV : Hid (M.vis j = true) := Lib.hid hv
            have CA := Lib.hid (rebuild_ok (n := l.length) RR.out.wf HL.out.symm (by have := HM.out; omega) (l.length + 1) N LN' X j wr RBK.out J.sk J.ad.ext.n (RR.out.wf.shst j hv) (by omega) ⟨_, mem_visB hv, Rst.self _⟩ (fun N' ad => Nat.le_trans (visB_len RR.out.wf HL.out (JJ.out.ad.trans ad)) HB.out))
            clear J hv
            go_wp2_with fail
            refine CA.out.mono ?_
            rintro e y1 ⟨N1, r, L1, rfl, t, a, st, es⟩
            obtain ⟨y2, up, m2, kk2, sz2⟩ := (JJ.out.map.kp t.kp (fun h => h.elim JJ.out.nb JJ.out.hb.2)).update keyRef Tryz.underlying105 (r : Int) j
            have u : (Instr.mapUpdate 105 (.map (some bn)) (.int .i64 (r : Int)) (.int .i64 (j : Int))).run Tryz.prog y1 = .ok () y2 := up 0
            have AM := Lib.hid (JJ.out.built RR.out.wf HV.out t a st es m2 kk2 (fun b o hb => by have := heap_lt (HX.out b o hb); have := JJ.out.hb.1; omega))
            have hrow := AM.out.row
            have hwx := AM.out.kp.size
            clear t a st es m2 kk2 sz2 up CA d1 dl
            go_upto_region 16 with fail
            clear u
            go_upto_region 17 with (at_builtin; refine wpList_append_lies _ rfl (.tmp 59) (.tmp 61) _ rfl w.heap.size 40 i0 _ 1 8 Tryz.underlying29 hi0 hz0 hz1 hz2 rfl (by omega) (.slice ar Rs.length cr) Rs.length (Rs.map natV) rfl (hrow.alloc _) ⟨y2.heap.size, 0, none⟩ 1 1 [.int .i64 (r : Int)] rfl rfl (World.news_of_block (heap_alloc_new _ _)) (by simp [Value.oneCell']) (by omega) (by unfold maxLen; omega) (by omega) (by simp; omega) (y2.heap.size + 1) (by simp) ?_; intro g5 cap5 w5 hown hgrow hat hlt5)
            have JN : Hid (ArR w M l q bi bn X (M.shown.length - (j + 1)) (.slice (some ⟨g5, 0, none⟩) (Rs.length + 1) cap5) (.int .i64 ((j + 1 : Nat) : Int)) w5) := Lib.hid ⟨j + 1, N1, L1, Rs ++ [r], _, by have := HJ.out; omega, rfl, AM.out.push (Kp.alloc _) hgrow (by
              rcases hat with h | h
              · exact .inl h
              · right; omega) hown (fun b o hb e => by have h1 := heap_lt (HX.out b o hb); have h2 := (AM.out.row.lt b e).1; omega)⟩
            clear hown hgrow hat hlt5 hrow AM
            go_wp2_with fail
            go_roundg (M.shown.length - (j + 1))
            case measure => have := HJ.out; omega
            case rel => exact JN.out
        · obtain rfl : j = M.shown.length := by omega
          have AO := Lib.hid (adopt_ok (JJ.out.ads RR.out HL.out HB.out HM.out))
          clear J
          go_wp2_with fail
          refine AO.out.mono ?_
          intro e w9 h9
          have RET := Lib.hid (arrange_end RR.out HL.out JJ.out h9)
          obtain ⟨rfl, _⟩ := h9
          go_wp2_with fail
          go_end0
          exact RET.out

end Go.Proofs.YtngbodmooddjbaaGreat
