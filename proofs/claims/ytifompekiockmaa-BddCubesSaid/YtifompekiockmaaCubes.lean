/-
  Walks: the law BddCubes.
-/
import Derived.Deep.RegionHeld
import Derived.Test.YtifompekiockmaaCube
import Derived.Test.YtifompekiockmaaOrder
import Derived.Test.YtifompekiockmaaSide
import Derived.Test.YtifompekiockmaaRowB
import Derived.Test.YtifompekiockmaaKeep
namespace Go.Proofs.Ytifompekiockmaa
open Go.RowKit

/-- What a literal picks. -/
def litOf (n : Nat) (x : Int) : Lit2 := (pick x (2 * n) / 2, lastBit x)

/-- The bits of a variable: 1: it occurs; 2: positive; 4: negative. -/
def vbits (ls : List Lit2) (v : Nat) : Nat := (if (v, true) ∈ ls then 3 else 0) ||| (if (v, false) ∈ ls then 5 else 0)

def cntS (ls : List Lit2) (c : Int) (x : Lit2) : Int :=
  let c1 := if vbits ls x.1 = 0 then c + 1 else c
  if vbits (ls ++ [x]) x.1 = 7 then -1000 else c1
def cntL : List Lit2 → Nat → Int
  | _, 0 => 0
  | ls, k + 1 => cntS (ls.take k) (cntL ls k) (ls.getD k (0, false))

theorem vbits_cases (ls : List Lit2) (v : Nat) : vbits ls v = 0 ∨ vbits ls v = 3 ∨ vbits ls v = 5 ∨ vbits ls v = 7 := by
  unfold vbits
  by_cases h1 : (v, true) ∈ ls <;> by_cases h2 : (v, false) ∈ ls <;> simp [h1, h2]
theorem vbits_snoc (ls : List Lit2) (x : Lit2) (v : Nat) : vbits (ls ++ [x]) v = if v = x.1 then vbits ls v ||| (if x.2 then 3 else 5) else vbits ls v := by
  unfold vbits
  obtain ⟨y, b⟩ := x
  by_cases e : v = y
  · subst e
    rw [if_pos rfl]
    by_cases h1 : (v, true) ∈ ls <;> by_cases h2 : (v, false) ∈ ls <;> cases b <;> simp [h1, h2]
  · rw [if_neg e]
    simp [e]
theorem vbits_zero (ls : List Lit2) (v : Nat) : vbits ls v = 0 ↔ v ∉ varsOf ls := by
  rw [varsOf_mem]
  unfold vbits
  by_cases h1 : (v, true) ∈ ls <;> by_cases h2 : (v, false) ∈ ls <;> simp [h1, h2]
theorem vbits_seven (ls : List Lit2) (v : Nat) : vbits ls v = 7 ↔ (v, true) ∈ ls ∧ (v, false) ∈ ls := by
  unfold vbits
  by_cases h1 : (v, true) ∈ ls <;> by_cases h2 : (v, false) ∈ ls <;> simp [h1, h2]

theorem varsOf_snoc_len (ls : List Lit2) (x : Lit2) : (varsOf (ls ++ [x])).length = (varsOf ls).length + if vbits ls x.1 = 0 then 1 else 0 := by
  have hm : ∀ v, v ∈ varsOf (ls ++ [x]) ↔ v ∈ varsOf ls ∨ v = x.1 := fun v => by
    rw [varsOf_mem, varsOf_mem]
    constructor
    · rintro ⟨b, hb⟩
      rcases List.mem_append.1 hb with h | h
      · exact .inl ⟨b, h⟩
      · simp at h
        exact .inr (by rw [← h])
    · rintro (⟨b, hb⟩ | rfl)
      · exact ⟨b, List.mem_append_left _ hb⟩
      · exact ⟨x.2, by simp⟩
  by_cases h0 : vbits ls x.1 = 0
  · rw [if_pos h0]
    have hx := (vbits_zero ls x.1).1 h0
    have nd : (x.1 :: varsOf ls).Nodup := List.nodup_cons.2 ⟨hx, varsOf_nodup ls⟩
    have l1 := Mgr.nodup_length _ _ (varsOf_nodup (ls ++ [x])) (fun v hv => by
      rcases (hm v).1 hv with h | h
      · exact List.mem_cons_of_mem _ h
      · rw [h]; exact List.Mem.head _ : ∀ v, v ∈ varsOf (ls ++ [x]) → v ∈ x.1 :: varsOf ls)
    have l2 := Mgr.nodup_length _ _ nd (fun v hv => by
      rcases List.mem_cons.1 hv with h | h
      · exact (hm v).2 (.inr h)
      · exact (hm v).2 (.inl h) : ∀ v, v ∈ x.1 :: varsOf ls → v ∈ varsOf (ls ++ [x]))
    simp at l1 l2
    omega
  · rw [if_neg h0]
    have hx : x.1 ∈ varsOf ls := by
      apply Classical.byContradiction
      intro hn
      exact h0 ((vbits_zero ls x.1).2 hn)
    have l1 := Mgr.nodup_length _ _ (varsOf_nodup (ls ++ [x])) (fun v hv => by
      rcases (hm v).1 hv with h | h
      · exact h
      · rw [h]; exact hx : ∀ v, v ∈ varsOf (ls ++ [x]) → v ∈ varsOf ls)
    have l2 := Mgr.nodup_length _ _ (varsOf_nodup ls) (fun v hv => (hm v).2 (.inl hv))
    omega

theorem consis_snoc (ls : List Lit2) (x : Lit2) : Consis (ls ++ [x]) ↔ Consis ls ∧ vbits (ls ++ [x]) x.1 ≠ 7 := by
  constructor
  · intro h
    refine ⟨fun v hv => h v ⟨List.mem_append_left _ hv.1, List.mem_append_left _ hv.2⟩, fun h7 => h x.1 ((vbits_seven _ _).1 h7)⟩
  · rintro ⟨h1, h2⟩ v hv
    by_cases e : v = x.1
    · subst e
      exact h2 ((vbits_seven _ _).2 hv)
    · have m : ∀ b, (v, b) ∈ ls ++ [x] → (v, b) ∈ ls := fun b hb => by
        rcases List.mem_append.1 hb with h | h
        · exact h
        · simp at h
          exact (e (by rw [← h])).elim
      exact h1 v ⟨m _ hv.1, m _ hv.2⟩

/-- What the count means. -/
theorem cnt_spec (ls : List Lit2) : ∀ k, k ≤ ls.length → (-1000 ≤ cntL ls k ∧ cntL ls k ≤ k) ∧ (Consis (ls.take k) → cntL ls k = ((varsOf (ls.take k)).length : Int)) ∧ (¬ Consis (ls.take k) → cntL ls k ≤ -1000 + k)
  | 0, _ => ⟨⟨by simp [cntL], by simp [cntL]⟩, fun _ => by simp [cntL, varsOf], fun h => (h (fun v hv => by simp at hv)).elim⟩
  | k + 1, hk => by
    obtain ⟨⟨a0, a1⟩, a2, a3⟩ := cnt_spec ls k (by omega)
    have hk' : k < ls.length := by omega
    have e : ls.getD k (0, false) = ls[k] := by simp [hk']
    rw [List.take_succ_eq_append_getElem hk']
    have hc : cntL ls (k + 1) = cntS (ls.take k) (cntL ls k) ls[k] := by rw [← e]; rfl
    rw [hc]
    generalize ls[k] = x at *
    generalize ls.take k = t at *
    generalize cntL ls k = c at *
    unfold cntS
    simp only
    rw [consis_snoc, varsOf_snoc_len]
    by_cases h7 : vbits (t ++ [x]) x.1 = 7
    · rw [if_pos h7]
      exact ⟨⟨by omega, by omega⟩, fun h => (h.2 h7).elim, fun _ => by omega⟩
    · rw [if_neg h7]
      refine ⟨?_, fun h => ?_, fun h => ?_⟩
      · split <;> exact ⟨by omega, by omega⟩
      · rw [a2 h.1]
        split <;> simp
      · have hn : ¬ Consis t := fun hh => h ⟨hh, h7⟩
        have := a3 hn
        split <;> omega

/-- The conjunction in the manager. -/
structure CuP (n k : Nat) (M : Mgr) (f : Int) (ls : List Lit2) : Prop where
  wf : M.WF
  nn : M.n = n
  len : M.nodes.length ≤ 2 + 1100 * k
  ok : M.valid f = true
  sem : ∀ a, M.sem f.toNat a = cubeF ls a

theorem or_fin : ∀ x y : Fin 8, bits BinOp.or IntKind.i64 (x.val : Int) (y.val : Int) = ((x.val ||| y.val : Nat) : Int) := by decide +kernel

def litsK (n : Nat) (ls : List Int) (k : Nat) : List Lit2 := (ls.take k).map (litOf n)
theorem litsK_succ {n : Nat} {ls : List Int} {k : Nat} (h : k < ls.length) : litsK n ls (k + 1) = litsK n ls k ++ [litOf n (ls.getD k 0)] := by
  have e : ls.getD k 0 = ls[k] := by simp [h]
  unfold litsK
  rw [List.take_succ_eq_append_getElem h, List.map_append, e]
  rfl
theorem litsK_all (n : Nat) (ls : List Int) (k : Nat) : litsK n ls k = (ls.map (litOf n)).take k := by unfold litsK; rw [List.map_take]
theorem litOf_lt {n : Nat} (hn : 0 < n) (y : Int) : (litOf n y).1 < n := by
  have := pick_lt y (n := 2 * n) (by omega)
  unfold litOf
  simp only
  omega

def vrow (n : Nat) (ls : List Lit2) : List Value := (List.range n).map fun v => natV (vbits ls v)
theorem vrow_len (n : Nat) (ls : List Lit2) : (vrow n ls).length = n := by simp [vrow]
theorem vrow_nil (n : Nat) : vrow n [] = List.replicate n (.int .i64 0) := by
  apply List.ext_getElem?
  intro j
  simp only [vrow, List.getElem?_map, List.getElem?_replicate]
  by_cases hj : j < n
  · simp [hj, vbits, natV]
  · rw [if_neg hj, List.getElem?_eq_none (by simp; omega)]; rfl
theorem vrow_snoc (n : Nat) (ls : List Lit2) (x : Lit2) : (vrow n ls).set x.1 (natV (vbits (ls ++ [x]) x.1)) = vrow n (ls ++ [x]) := by
  apply List.ext_getElem?
  intro j
  rw [List.getElem?_set]
  by_cases hj : j < n
  · by_cases e : x.1 = j
    · subst e; simp [vrow, hj]
    · rw [if_neg e]
      have : vbits (ls ++ [x]) j = vbits ls j := by rw [vbits_snoc, if_neg (fun h => e h.symm)]
      simp [vrow, hj, this]
  · have h1 : (vrow n ls)[j]? = none := List.getElem?_eq_none (by rw [vrow_len]; omega)
    have h2 : (vrow n (ls ++ [x]))[j]? = none := List.getElem?_eq_none (by rw [vrow_len]; omega)
    rw [h1, h2]
    split
    · rw [if_neg (by rw [vrow_len]; omega)]
    · rfl

structure CuJ (w : World) (p n : Nat) (ls : List Int) (k : Nat) (wr : World) (M : Mgr) (L : Lay) (f : Int) (gv : Nat) : Prop where
  own : Own w p wr M L
  cu : CuP n k M f (litsK n ls k)
  row : wr.ownsRow w.heap.size 3 1 (.slice (some ⟨gv, 0, none⟩) n n) n (vrow n (litsK n ls k))
  off : ¬ L.at p gv

def CuR (w : World) (p n : Nat) (ls : List Int) (la : List Bool) (gv : Nat) (gk : Nat) (s9 s11 s12 s13 : Value) (wr : World) : Prop :=
  ∃ k M L f, k + gk = ls.length ∧ s13 = .int .i64 (k : Int) ∧ s9 = .int .i64 f ∧ s11 = .int .i64 (cntL (ls.map (litOf n)) k) ∧ s12 = .bool (cubeF (litsK n ls k) (asg la)) ∧ CuJ w p n ls k wr M L f gv

/-- A literal is joined to the conjunction. -/
theorem cu_step {n k : Nat} {M : Mgr} {f : Int} {ls : List Lit2} (h : CuP n k M f ls) (hk : k ≤ 100) (hn : n ≤ 256) (x : Lit2) (hx : x.1 < n) :
    ∃ V X A : Mgr × Int, V = M.varM (x.1 : Int) ∧ X = (if x.2 then V else V.1.notM V.2) ∧ A = X.1.andM f X.2 ∧ V.1.nodes.length ≤ big ∧ X.1.nodes.length ≤ big ∧ A.1.nodes.length ≤ big ∧ CuP n (k + 1) A.1 A.2 (ls ++ [x]) := by
  obtain ⟨v, b⟩ := x
  have oV := Mgr.varM_ops h.wf (v := v) (by rw [h.nn]; exact hx)
  generalize M.varM (v : Int) = V at *
  obtain ⟨fV, sV⟩ := oV.old f h.ok
  have nV : V.1.n = n := by rw [oV.n, h.nn]
  have lV := oV.len
  have hl := h.len
  have key : ∃ X : Mgr × Int, X = (if b then V else V.1.notM V.2) ∧ Mgr.OpS V.1 (cubeF [(v, b)]) (n * 2) X.1 X.2 := by
    cases b with
    | true =>
      refine ⟨V, rfl, ⟨oV.wf, rfl, rfl, oV.ok, fun a => ?_, fun g hg => ⟨hg, fun _ => rfl⟩, by omega⟩⟩
      rw [oV.sem]; simp [cubeF]
    | false =>
      refine ⟨V.1.notM V.2, rfl, ?_⟩
      have o := Mgr.notM_ops oV.wf oV.ok (F := cubeF [(v, false)]) (fun a => by rw [oV.sem]; simp [cubeF]) (cube_states _ _)
      rw [nV] at o
      exact o
  obtain ⟨X, hX, oX⟩ := key
  obtain ⟨fX, sX⟩ := oX.old f fV
  have nX : X.1.n = n := by rw [oX.n, nV]
  have lX := oX.len
  have oA := Mgr.andM_ops oX.wf fX oX.ok (F := cubeF (ls ++ [(v, b)])) (fun a => by rw [sX, sV, h.sem, oX.sem, cubeF_snoc]; simp [cubeF]) (cube_states _ _)
  rw [nX] at oA
  have lA := oA.len
  refine ⟨V, X, _, rfl, hX, rfl, by unfold big; omega, by unfold big; omega, by unfold big; omega, ⟨oA.wf, by rw [oA.n, nX], by omega, oA.ok, oA.sem⟩⟩

theorem Own.row_step {w : World} {p : Nat} {wr w' : World} {M M' : Mgr} {L : Lay} {u : Value} {e : Ending} {gv n : Nat} {xs : List Value} (s : Own w p wr M L) (row : wr.ownsRow w.heap.size 3 1 (.slice (some ⟨gv, 0, none⟩) n n) n xs) (off : ¬ L.at p gv) (h : Ret p L wr M' u e w') :
    e = .returned u ∧ ∃ L', Own w p w' M' L' ∧ w'.ownsRow w.heap.size 3 1 (.slice (some ⟨gv, 0, none⟩) n n) n xs ∧ ¬ L'.at p gv := by
  obtain ⟨he, L', s'⟩ := s.step h
  obtain ⟨L1, _, r1, k1, f1⟩ := h
  refine ⟨he, L1, ⟨r1, s.kp.trans (A' := L.at p) (fun x hx => .inr (s.own x hx)) k1, fun x hx => ?_⟩, ownsRow_kp row k1 (fun k hk => by simp [Value.ownBlock] at hk; rw [← hk]; exact off), fun hx => ?_⟩
  · rcases f1 x hx with h1 | h1
    · exact s.own x h1
    · have := s.kp.size; omega
  · rcases f1 gv hx with h1 | h1
    · exact off h1
    · have := (row.lt gv rfl).2; omega

theorem vrow_cell {u : World} {B gv n : Nat} {ls : List Lit2} (hr : u.ownsRow B 3 1 (.slice (some ⟨gv, 0, none⟩) n n) n (vrow n ls)) {v : Nat} (hv : v < n) : u.cell? ⟨gv, v, none⟩ = some (.int .i64 (vbits ls v : Int)) ∧ u.frozen? ⟨gv, v, none⟩ = false := by
  obtain ⟨g', c', hv', _, _, _, hc', hf'⟩ := ownsRow_open hr (by omega)
  cases hv'
  exact ⟨hc' v _ (by simp [vrow, hv, natV]), hf' v⟩

/-- The round's end: the bits of the variable are set. -/
theorem cu_next {w z : World} {p n k gv : Nat} {ls : List Int} {la : List Bool} {A : Mgr × Int} {L' : Lay} {v : Nat} {b wt : Bool} {y1 cn : Int} (hx : litOf n (ls.getD k 0) = (v, b)) (hlt : k < ls.length) (cu2 : CuP n (k + 1) A.1 A.2 (litsK n ls k ++ [(v, b)]))
    (ho : Own w p z A.1 L') (hr : z.ownsRow w.heap.size 3 1 (.slice (some ⟨gv, 0, none⟩) n n) n (vrow n (litsK n ls k))) (hf : ¬ L'.at p gv) (hc : cn = cntL (ls.map (litOf n)) (k + 1)) (hw : wt = (cubeF (litsK n ls k) (asg la) && (asg la v == b))) :
    CuR w p n ls la gv (ls.length - (k + 1)) (.int .i64 A.2) (.int .i64 cn) (.bool wt) (.int .i64 ((k + 1 : Nat) : Int)) ((z.setCell ⟨gv, v, none⟩ (.int .i64 y1)).setCell ⟨gv, v, none⟩ (.int .i64 (vbits (litsK n ls k ++ [(v, b)]) v : Int))) := by
  rw [setCell_twice]
  have hls := litsK_succ (n := n) hlt
  rw [hx] at hls
  have hk : Kp (fun q => q = gv) z (z.setCell ⟨gv, v, none⟩ (.int .i64 (vbits (litsK n ls k ++ [(v, b)]) v : Int))) := (Kp.setCell _ _).mono (fun _ _ e => e)
  have hgv := (hr.lt gv rfl).1
  refine ⟨k + 1, A.1, L', A.2, by omega, rfl, rfl, by rw [hc], by rw [hw, hls, cubeF_snoc], ⟨⟨ho.rep.kp hk (fun q e => by rw [e]; exact hf), ho.kp.trans (A' := fun q => q = gv) (fun q e => .inr (by rw [e]; exact hgv)) hk, ho.own⟩, by rw [hls]; exact cu2, ?_, hf⟩⟩
  have h1 := ownsRow_put hr v (.int .i64 (vbits (litsK n ls k ++ [(v, b)]) v : Int))
  have h2 := vrow_snoc n (litsK n ls k) (v, b)
  unfold natV at h2
  rw [h2] at h1
  rw [hls]
  exact h1

theorem cnt_next {n k : Nat} {ls : List Int} {v : Nat} {b : Bool} (hx : litOf n (ls.getD k 0) = (v, b)) (hlt : k < ls.length) :
    cntL (ls.map (litOf n)) (k + 1) = if vbits (litsK n ls k ++ [(v, b)]) v = 7 then -1000 else if vbits (litsK n ls k) v = 0 then cntL (ls.map (litOf n)) k + 1 else cntL (ls.map (litOf n)) k := by
  have e1 : (ls.map (litOf n)).getD k (0, false) = (v, b) := by rw [← hx]; simp [hlt]
  rw [litsK_all]
  show cntS _ _ _ = _
  rw [e1]
  rfl

/-- The assignment's cell is not touched by what is written into a row made since. -/
theorem bools_cell {w u : World} {aa : Option Addr} {ca : Nat} {la : List Bool} (h : Bools w (.slice aa la.length ca) la) (hk : Kp No w u) {gv i : Nat} (hg : w.heap.size ≤ gv) {v : Nat} (hv : v < la.length) (x y : Value) :
    ∃ g2 o2, aa = some ⟨g2, o2, none⟩ ∧ ((u.setCell ⟨gv, i, none⟩ x).setCell ⟨gv, i, none⟩ y).cell? ⟨g2, o2 + v, none⟩ = some (.bool (asg la v)) := by
  have e : la[v]? = some (asg la v) := by simp [asg, hv]
  obtain ⟨a1, c1, h1, _, h2⟩ := h.no hk
  obtain ⟨a0, c0, h3, _, h4⟩ := h
  cases h1
  cases h3
  rcases h2 with h2 | ⟨g, o, rfl, h2⟩
  · subst h2; simp at hv
  rcases h4 with h4 | ⟨g', o', hgo, h4⟩
  · subst h4; simp at hv
  cases hgo
  have hlt := World.block_lt_of_cell? _ _ (h4 v _ e)
  refine ⟨g, o, rfl, ?_⟩
  rw [setCell_twice]
  have hne : gv ≠ g := fun hx => by subst hx; simp only at hlt; omega
  exact (World.cell?_setCell_far _ ⟨gv, i, none⟩ ⟨g, o + v, none⟩ _ hne).trans (h2 v _ e)

end Go.Proofs.Ytifompekiockmaa
