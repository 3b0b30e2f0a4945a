/-
  Plain: the diagram that 'newDiagram' makes of the nodes of some functions.
-/
import Derived.Test.YtngbodmooddjbaaGreatTt
import Derived.Test.YtngbodmooddjbaaGreatDx
namespace Go.Proofs.YtngbodmooddjbaaGreat
open Go.RowKit

/-- The diagram holds the functions Gs behind the references E. -/
def Dg.Hold (D : Dg) (E : List Nat) (Gs Fs : List Bfn) : Prop := ∃ S, D.Inv 0 [] E S Fs ∧ E.map S = Gs
theorem Dg.Hold.tot {D : Dg} {E : List Nat} {Gs Fs : List Bfn} (h : D.Hold E Gs Fs) : IsTot D.order Gs D.total := by
  obtain ⟨S, h1, rfl⟩ := h
  exact h1.isTot
structure SfP (m : List Nat) (v s t0 : Nat) (E : List Nat) (Gs Fs : List Bfn) (D : Dg) (p best goal : Nat) (vis : Nat → Prop) : Prop where
  inv : D.Hold E Gs Fs
  ord : D.order = insO m v p
  pl : p ≤ m.length
  gl : goal ≤ m.length
  bt : IsTot (insO m v goal) Gs best
  lb : ∀ q, vis q → ∀ t, IsTot (insO m v q) Gs t → best ≤ t
  st : (goal = s ∧ best = t0) ∨ best < t0
section
variable {m : List Nat} {v s t0 : Nat} {E : List Nat} {Gs Fs : List Bfn} {D D' : Dg} {p p' best goal : Nat} {vis : Nat → Prop}
theorem SfP.start (h : D.Hold E Gs Fs) (ho : D.order = insO m v s) (hs : s ≤ m.length) : SfP m v s D.total E Gs Fs D s D.total s (fun q => q = s) := by
  have t := h.tot
  rw [ho] at t
  exact ⟨h, ho, hs, hs, t, fun q hq t' ht => by rw [hq] at ht; exact Nat.le_of_eq (t.uniq ht), .inl ⟨rfl, rfl⟩⟩
/-- The variable has come to another place. -/
theorem SfP.move (x : SfP m v s t0 E Gs Fs D p best goal vis) (h : D'.Hold E Gs Fs) (ho : D'.order = insO m v p') (hp : p' ≤ m.length) : SfP m v s t0 E Gs Fs D' p' best goal vis :=
  ⟨h, ho, hp, x.gl, x.bt, x.lb, x.st⟩
theorem SfP.less (x : SfP m v s t0 E Gs Fs D p best goal vis) (hl : D.total < best) : SfP m v s t0 E Gs Fs D p D.total p (fun q => vis q ∨ q = p) := by
  have t := x.inv.tot
  rw [x.ord] at t
  refine ⟨x.inv, x.ord, x.pl, x.pl, t, fun q hq t' ht => ?_, .inr ?_⟩
  · rcases hq with hq | rfl
    · have := x.lb q hq t' ht; omega
    · exact Nat.le_of_eq (t.uniq ht)
  · rcases x.st with ⟨_, e⟩ | e <;> omega
theorem SfP.more (x : SfP m v s t0 E Gs Fs D p best goal vis) (hl : ¬ D.total < best) : SfP m v s t0 E Gs Fs D p best goal (fun q => vis q ∨ q = p) := by
  have t := x.inv.tot
  rw [x.ord] at t
  refine ⟨x.inv, x.ord, x.pl, x.gl, x.bt, fun q hq t' ht => ?_, x.st⟩
  rcases hq with hq | rfl
  · exact x.lb q hq t' ht
  · rw [← t.uniq ht]; omega
/-- What 'sift' leaves. -/
structure SfD (m : List Nat) (v s t0 : Nat) (E : List Nat) (Gs Fs : List Bfn) (D : Dg) (goal : Nat) : Prop where
  inv : D.Hold E Gs Fs
  ord : D.order = insO m v goal
  gl : goal ≤ m.length
  lt : goal ≠ s → D.total < t0
  eq : goal = s → D.total = t0
  lb : ∀ q, q ≤ m.length → ∀ t, IsTot (insO m v q) Gs t → D.total ≤ t
theorem SfP.done (x : SfP m v s t0 E Gs Fs D goal best goal vis) (hv : ∀ q, q ≤ m.length → vis q) (t0' : IsTot (insO m v s) Gs t0) : SfD m v s t0 E Gs Fs D goal := by
  have t := x.inv.tot
  rw [x.ord] at t
  have e := t.uniq x.bt
  refine ⟨x.inv, x.ord, x.gl, fun h => ?_, fun h => ?_, fun q hq t' ht => by rw [e]; exact x.lb q (hv q hq) t' ht⟩
  · rcases x.st with ⟨h1, _⟩ | h1
    · exact (h h1).elim
    · omega
  · subst h; exact t.uniq t0'
end

/-! ### 'Sift' -/
/-- The variable v of the order l is moved to place p. -/
def movO (l : List Nat) (v p : Nat) : List Nat := insO (l.erase v) v p
def keptO (vs : List Int) (l : List Nat) : List Nat := l.filter fun v => !(vs.contains (v : Int))
theorem eraseIdx_erase {l : List Nat} (hn : l.Nodup) {k : Nat} (hk : k < l.length) : l.eraseIdx k = l.erase (l.getD k 0) := by
  have e : l.getD k 0 = l[k] := by rw [List.getD_eq_getElem?_getD, List.getElem?_eq_getElem hk]; rfl
  rw [e, List.erase_eq_eraseIdx_of_idxOf (i := k)]
  exact hn.idxOf_getElem k hk
theorem kept_ins {vs : List Int} {m : List Nat} {v p : Nat} (h : (v : Int) ∈ vs) : keptO vs (insO m v p) = keptO vs m := by
  unfold keptO insO
  rw [List.filter_append, List.filter_cons_of_neg (by simpa using h), ← List.filter_append, List.take_append_drop]
theorem kept_mov {vs : List Int} {l : List Nat} {v p s : Nat} (h : (v : Int) ∈ vs) (hs : s < l.length) (e : l.getD s 0 = v) (hn : l.Nodup) : keptO vs (movO l v p) = keptO vs l := by
  unfold movO
  rw [kept_ins h]
  conv => rhs; rw [← insO_erase hs]
  rw [e, kept_ins h, eraseIdx_erase hn hs, e]
/-- No move of a variable of vs makes the total less. -/
def StayO (l : List Nat) (vs : List Int) (Gs : List Bfn) (t : Nat) : Prop := ∀ v : Nat, (v : Int) ∈ vs → v < l.length → ∀ p, p + 1 ≤ l.length → ∀ t', IsTot (movO l v p) Gs t' → t ≤ t'
/-- Some move does. -/
def GoesO (l : List Nat) (vs : List Int) (Gs : List Bfn) (t : Nat) : Prop := ∃ v : Nat, (v : Int) ∈ vs ∧ v < l.length ∧ ∃ p, p + 1 ≤ l.length ∧ ∃ t', IsTot (movO l v p) Gs t' ∧ t' < t
structure SiftD (l : List Nat) (vs : List Int) (t0 : Nat) (E : List Nat) (Gs Fs : List Bfn) (D : Dg) (moved : Bool) : Prop where
  inv : D.Hold E Gs Fs
  len : D.order.length = l.length
  kept : keptO vs D.order = keptO vs l
  no : moved = false → D.order = l ∧ D.total = t0
  yes : moved = true → D.total < t0 ∧ GoesO l vs Gs t0
theorem SiftD.stay {l : List Nat} {vs : List Int} {t0 : Nat} {E : List Nat} {Gs Fs : List Bfn} {D : Dg} {mv : Bool} (x : SiftD l vs t0 E Gs Fs D mv) {v s goal : Nat} {D' : Dg} (y : SfD (D.order.eraseIdx s) v s D.total E Gs Fs D' goal) (e : goal = s) (hs : s < D.order.length) (ev : D.order.getD s 0 = v) : SiftD l vs t0 E Gs Fs D' mv := by
  subst e
  have eo : D'.order = D.order := by rw [y.ord, ← ev, insO_erase hs]
  have et := y.eq rfl
  exact ⟨y.inv, by rw [eo, x.len], by rw [eo, x.kept], fun h => by rw [eo, et]; exact x.no h, fun h => by rw [et]; exact x.yes h⟩
theorem Dg.Hold.perm {D : Dg} {E : List Nat} {Gs Fs : List Bfn} (h : D.Hold E Gs Fs) : PermL D.order := by
  obtain ⟨S, h1, _⟩ := h
  exact h1.perm
theorem SfD.mov {D D' : Dg} {v s goal t0 : Nat} {E : List Nat} {Gs Fs : List Bfn} (hp : PermL D.order) (y : SfD (D.order.eraseIdx s) v s t0 E Gs Fs D' goal) (hs : s < D.order.length) (ev : D.order.getD s 0 = v) :
    D'.order = movO D.order v goal ∧ goal + 1 ≤ D.order.length ∧ D'.order.length = D.order.length := by
  have em : D.order.eraseIdx s = D.order.erase v := by rw [eraseIdx_erase hp.1 hs, ev]
  have el : (D.order.eraseIdx s).length = D.order.length - 1 := by rw [List.length_eraseIdx, if_pos hs]
  have gl := y.gl
  exact ⟨by rw [y.ord, em]; rfl, by omega, by rw [y.ord, insO_len, el]; omega⟩
theorem SiftD.goes {l : List Nat} {vs : List Int} {t0 : Nat} {E : List Nat} {Gs Fs : List Bfn} {D : Dg} {mv : Bool} (x : SiftD l vs t0 E Gs Fs D mv) {v s goal : Nat} {D' : Dg} (y : SfD (D.order.eraseIdx s) v s D.total E Gs Fs D' goal) (e : goal ≠ s) (hs : s < D.order.length) (ev : D.order.getD s 0 = v) (hv : (v : Int) ∈ vs) : SiftD l vs t0 E Gs Fs D' true := by
  have hp := x.inv.perm
  obtain ⟨eo, gl, ln⟩ := y.mov hp hs ev
  refine ⟨y.inv, by rw [ln, x.len], ?_, fun h => (by cases h), fun _ => ⟨?_, ?_⟩⟩
  · rw [eo, kept_mov hv hs ev hp.1, x.kept]
  · have := y.lt e
    cases mv with
    | false => rw [← (x.no rfl).2]; exact this
    | true => have := (x.yes rfl).1; omega
  · cases mv with
    | true => exact (x.yes rfl).2
    | false =>
      obtain ⟨e1, e2⟩ := x.no rfl
      refine ⟨v, hv, ?_, goal, by rw [← e1]; exact gl, D'.total, ?_, by rw [← e2]; exact y.lt e⟩
      · rw [← e1, ← ev]; exact hp.lt hs
      · have := y.inv.tot
        rw [eo, e1] at this
        exact this
/-- A pass through the variables, j of them done. -/
structure PassD (vs : List Int) (Gs : List Bfn) (t1 j : Nat) (D : Dg) (again : Bool) : Prop where
  no : again = false → D.total = t1 ∧ StayO D.order (vs.take j) Gs D.total
  yes : again = true → D.total < t1
theorem StayO.nil (l : List Nat) (Gs : List Bfn) (t : Nat) : StayO l [] Gs t := fun _ h => by cases h
theorem StayO.snoc {l : List Nat} {vs : List Int} {Gs : List Bfn} {t j : Nat} {x : Int} (h : StayO l (vs.take j) Gs t) (hx : vs[j]? = some x) (hv : ∀ v : Nat, (v : Int) = x → v < l.length → ∀ p, p + 1 ≤ l.length → ∀ t', IsTot (movO l v p) Gs t' → t ≤ t') : StayO l (vs.take (j + 1)) Gs t := by
  intro v hm hl
  rw [List.take_add_one, hx, Option.toList_some, List.mem_append, List.mem_singleton] at hm
  rcases hm with hm | hm
  · exact h v hm hl
  · exact hv v hm hl
theorem PassD.skip {vs : List Int} {Gs : List Bfn} {t1 j : Nat} {D : Dg} {ag : Bool} {x : Int} (h : PassD vs Gs t1 j D ag) (hx : vs[j]? = some x) (hv : ∀ v : Nat, (v : Int) = x → v < D.order.length → ∀ p, p + 1 ≤ D.order.length → ∀ t', IsTot (movO D.order v p) Gs t' → D.total ≤ t') : PassD vs Gs t1 (j + 1) D ag :=
  ⟨fun e => ⟨(h.no e).1, (h.no e).2.snoc hx hv⟩, h.yes⟩
/-- A variable that is no variable. -/
theorem PassD.bad {vs : List Int} {Gs : List Bfn} {t1 j : Nat} {D : Dg} {ag : Bool} {x : Int} (h : PassD vs Gs t1 j D ag) (hx : vs[j]? = some x) (hb : ¬ (0 ≤ x ∧ x < D.order.length)) : PassD vs Gs t1 (j + 1) D ag :=
  h.skip hx (fun v e hl => absurd ⟨by omega, by omega⟩ hb)
/-- A variable that no cell has. -/
theorem PassD.none {vs : List Int} {Gs Fs : List Bfn} {E : List Nat} {t1 j v : Nat} {D : Dg} {ag : Bool} (h : PassD vs Gs t1 j D ag) (hx : vs[j]? = some (v : Int)) (hD : D.Hold E Gs Fs) (hl : v < D.order.length) (ht : ∀ p, D.tab v p = Option.none) : PassD vs Gs t1 (j + 1) D ag := by
  refine h.skip hx (fun v' e _ p hp t' tt => ?_)
  obtain rfl : v' = v := by omega
  obtain ⟨S, hi, rfl⟩ := hD
  obtain ⟨p1, p2⟩ := posO_of hi.perm hl
  have no : ∀ i, D.live i → (D.nd i).1 ≠ (v' : Int) := fun i li e => by
    have := (hi.tb v' hl (((D.nd i).2.1 : Int), ((D.nd i).2.2 : Int)) i).2 ⟨li, by simp, e, rfl⟩
    rw [ht] at this
    cases this
  have el : (D.order.eraseIdx (posO D.order v')).length = D.order.length - 1 := by rw [List.length_eraseIdx, if_pos p1]
  have := Dg.absent hi (m := D.order.eraseIdx (posO D.order v')) (v := v') (s := posO D.order v') (by omega) (by conv => lhs; rw [← insO_erase p1, p2]) no p (by omega)
  rw [eraseIdx_erase hi.perm.1 p1, p2] at this
  exact Nat.le_of_eq (this.uniq tt)
theorem PassD.stay {vs : List Int} {Gs Fs : List Bfn} {E : List Nat} {t1 j v s goal : Nat} {D D' : Dg} {ag : Bool} (h : PassD vs Gs t1 j D ag) (hx : vs[j]? = some (v : Int)) (hp : PermL D.order) (y : SfD (D.order.eraseIdx s) v s D.total E Gs Fs D' goal) (e : goal = s) (hs : s < D.order.length) (ev : D.order.getD s 0 = v) : PassD vs Gs t1 (j + 1) D' ag := by
  subst e
  have eo : D'.order = D.order := by rw [y.ord, ← ev, insO_erase hs]
  have et := y.eq rfl
  have el : (D.order.eraseIdx goal).length = D.order.length - 1 := by rw [List.length_eraseIdx, if_pos hs]
  have h' : PassD vs Gs t1 j D' ag := ⟨fun e => by rw [eo, et]; exact h.no e, fun e => by rw [et]; exact h.yes e⟩
  refine h'.skip hx (fun v' e' _ p hp' t' tt => ?_)
  obtain rfl : v' = v := by omega
  rw [eo] at tt hp'
  unfold movO at tt
  rw [← ev, ← eraseIdx_erase hp.1 hs, ev] at tt
  exact y.lb p (by omega) t' tt
theorem PassD.goes {vs : List Int} {Gs Fs : List Bfn} {E : List Nat} {m : List Nat} {t1 j v s goal : Nat} {D D' : Dg} {ag : Bool} (h : PassD vs Gs t1 j D ag) (y : SfD m v s D.total E Gs Fs D' goal) (e : goal ≠ s) : PassD vs Gs t1 (j + 1) D' true :=
  ⟨fun e => (by cases e), fun _ => by
    have := y.lt e
    cases ag with
    | false => rw [← (h.no rfl).1]; exact this
    | true => have := h.yes rfl; omega⟩
theorem PassD.start (vs : List Int) (Gs : List Bfn) (D : Dg) : PassD vs Gs D.total 0 D false := ⟨fun _ => ⟨rfl, by rw [List.take_zero]; exact StayO.nil _ _ _⟩, fun e => (by cases e)⟩
end Go.Proofs.YtngbodmooddjbaaGreat

namespace Go.Proofs.YtngbodmooddjbaaGreat
open Go.RowKit

def nZ : Nd := (-1, 0, 0)
def kidsN (x : Nd) : List Nat := [x.2.1, x.2.2]
def countF (l : List Nat) : Nat → Int := fun i => (l.count i : Int)
theorem countF_snoc (l : List Nat) (i : Nat) : putN (countF l) i (countF l i + 1) = countF (l ++ [i]) := by
  funext j
  unfold countF putN
  rw [List.count_append]
  by_cases e : j = i
  · subst e
    rw [if_pos rfl, List.count_singleton_self]; omega
  · rw [if_neg e, List.count_singleton, if_neg (by simpa using fun h => e h.symm), Nat.add_zero]
/-- The table of the first j nodes. -/
def tabN (N : List Nd) : Nat → PTab
  | 0 => fun _ _ => none
  | j + 1 => updT (tabN N j) (N.getD j nZ).1.toNat (((N.getD j nZ).2.1 : Int), ((N.getD j nZ).2.2 : Int)) (some (j + 2))
theorem tabN_iff {N : List Nd} (inj : ∀ i j, i < N.length → j < N.length → (N.getD i nZ).1.toNat = (N.getD j nZ).1.toNat → (N.getD i nZ).2 = (N.getD j nZ).2 → i = j) (v : Nat) (p : Pair) (i : Nat) :
    ∀ j, j ≤ N.length → (tabN N j v p = some i ↔ 2 ≤ i ∧ i < j + 2 ∧ (N.getD (i - 2) nZ).1.toNat = v ∧ p = (((N.getD (i - 2) nZ).2.1 : Int), ((N.getD (i - 2) nZ).2.2 : Int)))
  | 0, _ => by
    refine ⟨fun h => (by cases h), fun h => by omega⟩
  | j + 1, hj => by
    have ih := tabN_iff inj v p i j (by omega)
    unfold tabN updT
    by_cases c : v = (N.getD j nZ).1.toNat ∧ p = (((N.getD j nZ).2.1 : Int), ((N.getD j nZ).2.2 : Int))
    · rw [if_pos c]
      constructor
      · intro h
        have : j + 2 = i := Option.some.inj h
        subst this
        exact ⟨by omega, by omega, c.1.symm, c.2⟩
      · rintro ⟨h1, h2, h3, h4⟩
        have e4 := h4.symm.trans c.2
        rw [Prod.mk.injEq] at e4
        have : i - 2 = j := inj _ _ (by omega) (by omega) (h3.trans c.1) (Prod.ext (by have := e4.1; omega) (by have := e4.2; omega))
        exact congrArg some (by omega)
    · rw [if_neg c, ih]
      constructor
      · rintro ⟨h1, h2, h3⟩
        exact ⟨h1, by omega, h3⟩
      · rintro ⟨h1, h2, h3, h4⟩
        refine ⟨h1, ?_, h3, h4⟩
        by_cases e : i - 2 = j
        · rw [e] at h3 h4; exact (c ⟨h3.symm, h4⟩).elim
        · omega
/-- The diagram when j nodes are there; t is its total, l what has been counted. -/
def mkD (o : List Nat) (N : List Nd) (j : Nat) (l : List Nat) : Dg :=
  { order := o, len := j + 2, nd := fun i => if i < 2 then nZ else N.getD (i - 2) nZ, tab := tabN N j, spare := [], rf := countF l, total := N.length }
theorem mkD_live {o : List Nat} {N : List Nd} {j : Nat} {l : List Nat} {i : Nat} : (mkD o N j l).live i ↔ 2 ≤ i ∧ i < j + 2 := by
  show 2 ≤ i ∧ i < j + 2 ∧ i ∉ ([] : List Nat) ↔ _
  simp
theorem mkD_liveL (o : List Nat) (N : List Nd) (j : Nat) (l : List Nat) : (mkD o N j l).liveL.Perm ((List.range j).map (· + 2)) := by
  refine (List.perm_ext_iff_of_nodup (Dg.liveL_nodup _) ?_).2 (fun i => ?_)
  · rw [List.nodup_iff_pairwise_ne, List.pairwise_map]
    have := (List.nodup_range (n := j))
    rw [List.nodup_iff_pairwise_ne] at this
    exact this.imp (fun h e => h (by omega))
  · rw [Dg.mem_liveL, mkD_live, List.mem_map]
    constructor
    · rintro ⟨h1, h2⟩
      exact ⟨i - 2, List.mem_range.2 (by omega), by omega⟩
    · rintro ⟨k, hk, rfl⟩
      have := List.mem_range.1 hk
      omega
theorem mkD_kids (o : List Nat) (N : List Nd) (l : List Nat) : (mkD o N N.length l).kids.Perm (N.flatMap kidsN) := by
  refine (Dg.kidsOf_perm _ (mkD_liveL o N N.length l)).trans ?_
  refine List.Perm.of_eq ?_
  unfold Dg.kidsOf
  rw [List.flatMap_map]
  have e : N = (List.range N.length).map fun i => N.getD i nZ := by
    apply List.ext_getElem?
    intro i
    rw [List.getElem?_map]
    by_cases h : i < N.length
    · rw [List.getElem?_range h, List.getElem?_eq_getElem h]
      show some N[i] = some (N.getD i nZ)
      rw [List.getD_eq_getElem?_getD, List.getElem?_eq_getElem h]; rfl
    · rw [List.getElem?_eq_none (by omega), List.getElem?_eq_none (by simp; omega)]; rfl
  conv => rhs; rw [e, List.flatMap_map]
  refine congrArg List.flatten (List.map_congr_left (fun i _ => ?_))
  show [(if i + 2 < 2 then nZ else N.getD (i + 2 - 2) nZ).2.1, (if i + 2 < 2 then nZ else N.getD (i + 2 - 2) nZ).2.2] = [(N.getD i nZ).2.1, (N.getD i nZ).2.2]
  rw [if_neg (by omega), Nat.add_sub_cancel]

/-! ### the valid ones among some references -/
def vld (M : Mgr) (fs : List Int) : List Nat := (fs.filter fun f => M.valid f).map Int.toNat
theorem saveM_walk (M : Mgr) (fs : List Int) : (saveM M fs).1 = walkAll M (vld M fs) := by
  have : ∀ (fs : List Int) st, (fs.foldl (saveStep M) st).1 = (vld M fs).foldl (fun s f => M.walkS (M.n + 1) s f) st.1 := by
    intro fs
    induction fs with
    | nil => intro st; rfl
    | cons f fs ih =>
      intro st
      rw [List.foldl_cons, ih]
      unfold saveStep vld
      by_cases h : M.valid f = true
      · rw [if_pos h, List.filter_cons_of_pos h, List.map_cons, List.foldl_cons]
      · rw [if_neg h, List.filter_cons_of_neg h]
  exact this fs _
theorem vld_stored {M : Mgr} (h : M.WF) {fs : List Int} {f : Nat} (hf : f ∈ vld M fs) : M.stored f := by
  unfold vld at hf
  obtain ⟨x, hx, rfl⟩ := List.mem_map.1 hf
  obtain ⟨n, rfl, sn, _⟩ := Mgr.valid_nat h (List.mem_filter.1 hx).2
  rw [Int.toNat_natCast]; exact sn
/-- The roots that count. -/
def rsN (R : List Int) : List Nat := (R.filter fun r => decide (0 ≤ r)).map Int.toNat
theorem rsN_snoc (R : List Int) (x : Int) : rsN (R ++ [x]) = if 0 ≤ x then rsN R ++ [x.toNat] else rsN R := by
  unfold rsN
  rw [List.filter_append]
  by_cases h : 0 ≤ x
  · rw [if_pos h, List.filter_cons_of_pos (by simpa using h), List.map_append]; rfl
  · rw [if_neg h, List.filter_cons_of_neg (by simpa using h), List.filter_nil, List.append_nil]
theorem saveM_roots {M : Mgr} (h : M.WF) (fs : List Int) : rsN (saveM M fs).2 = (vld M fs).map (code0 (saveM M fs).1.2) := by
  have a := saveM_all h fs
  have e : (saveM M fs).2 = fs.map fun f => if M.valid f = true then (code0 (saveM M fs).1.2 f.toNat : Int) else -1 := by
    apply List.ext_getElem?
    intro i
    rw [List.getElem?_map]
    by_cases hi : i < fs.length
    · rw [a.root i fs[i] (List.getElem?_eq_getElem hi), List.getElem?_eq_getElem hi]; rfl
    · rw [List.getElem?_eq_none (by rw [a.len]; omega), List.getElem?_eq_none (by omega)]; rfl
  rw [e]
  generalize (saveM M fs).1.2 = V
  unfold rsN vld
  clear e a
  induction fs with
  | nil => rfl
  | cons f fs ih =>
    rw [List.map_cons]
    by_cases c : M.valid f = true
    · rw [if_pos c, List.filter_cons_of_pos (by simp), List.filter_cons_of_pos c, List.map_cons, List.map_cons, List.map_cons, ih, Int.toNat_natCast]
    · rw [if_neg c, List.filter_cons_of_neg (by simp), List.filter_cons_of_neg c, ih]
theorem SubL.rst {l : List Nat} {Fs : List Bfn} : ∀ (j : Nat) (g : Bfn), SubL l Fs j g → ∃ F, F ∈ Fs ∧ Rst F g
  | 0, g, h => ⟨g, h, Rst.self g⟩
  | j + 1, g, ⟨h, b, h1, e⟩ => by
    obtain ⟨F, hF, r⟩ := SubL.rst j h h1
    exact ⟨F, hF, by rw [e]; exact r.trans (Rst.upd h _ b)⟩
theorem posO_lev {M : Mgr} (h : M.WF) {v : Nat} (hv : v < M.n) : posO M.order v = M.lev v := by
  obtain ⟨h1, h2⟩ := h.ol v hv
  have := posO_at h.perm h1
  rw [show M.order.getD (M.lev v) 0 = v from h2] at this
  exact this

/-- What stands in cell i. -/
def cofN (V : List Nat) (i : Nat) : Nat := if i < 2 then i else V.getD (i - 2) 0
def semN (M : Mgr) (V : List Nat) (i : Nat) : Bfn := M.sem (cofN V i)
theorem mkD_inv {M : Mgr} (h : M.WF) (fs : List Int) :
    (mkD M.order (saveN M (saveM M fs).1.2) (saveM M fs).1.2.length ((saveN M (saveM M fs).1.2).flatMap kidsN ++ rsN (saveM M fs).2)).Inv 0 [] (rsN (saveM M fs).2) (semN M (saveM M fs).1.2) ((vld M fs).map M.sem) ∧
    (rsN (saveM M fs).2).map (semN M (saveM M fs).1.2) = (vld M fs).map M.sem := by
  have a := saveM_all h fs
  have v := a.v
  have hr := saveM_roots h fs
  have hst : ∀ f, f ∈ vld M fs → M.stored f := fun f hf => vld_stored h hf
  have dia := Mgr.dia h hst
  have hw := saveM_walk M fs
  rw [← hw] at dia
  have low : ∀ g, g < 2 → g ∉ (saveM M fs).1.2 := fun g hg hm => by have := (v.st g hm).2; omega
  have vm : ∀ f, f ∈ vld M fs → f < 2 ∨ f ∈ (saveM M fs).1.2 := fun f hf => by
    rcases Nat.lt_or_ge f 2 with c | c
    · exact .inl c
    · right
      rw [hw]
      exact walkAll_mem h _ hst f hf c
  rw [hr]
  generalize hs : (saveM M fs).1 = s at *
  have hN : saveN M s.2 = s.2.map fun f => ((M.nd f).1, code0 s.2 (M.nd f).2.1, code0 s.2 (M.nd f).2.2) := v.nodes
  have lN : (saveN M s.2).length = s.2.length := saveN_len M s.2
  have gN : ∀ i, i < s.2.length → (saveN M s.2).getD i nZ = ((M.nd (s.2.getD i 0)).1, code0 s.2 (M.nd (s.2.getD i 0)).2.1, code0 s.2 (M.nd (s.2.getD i 0)).2.2) := fun i hi => by
    rw [hN, List.getD_eq_getElem?_getD, List.getElem?_map, List.getElem?_eq_getElem hi, List.getD_eq_getElem?_getD, List.getElem?_eq_getElem hi]; rfl
  have gV : ∀ i, i < s.2.length → s.2[i]? = some (s.2.getD i 0) := fun i hi => by
    rw [List.getD_eq_getElem?_getD, List.getElem?_eq_getElem hi]; rfl
  have mV : ∀ i, i < s.2.length → s.2.getD i 0 ∈ s.2 := fun i hi => List.mem_of_getElem? (gV i hi)
  have cc : ∀ c, (c < 2 ∨ c ∈ s.2) → cofN s.2 (code0 s.2 c) = c := fun c hc => by
    unfold cofN
    rcases Nat.lt_or_ge c 2 with x | x
    · rw [code0_low x (low c x), if_pos x]
    · obtain ⟨i, hi⟩ := List.mem_iff_getElem?.1 (hc.resolve_left (by omega))
      rw [code0_at v.nodup hi, if_neg (by omega), Nat.add_sub_cancel, List.getD_eq_getElem?_getD, hi]; rfl
  have cl : ∀ c, (c < 2 ∨ c ∈ s.2) → code0 s.2 c < 2 ∨ (2 ≤ code0 s.2 c ∧ code0 s.2 c < s.2.length + 2) := fun c hc => by
    rcases Nat.lt_or_ge c 2 with x | x
    · rw [code0_low x (low c x)]; exact .inl x
    · obtain ⟨i, hi⟩ := List.mem_iff_getElem?.1 (hc.resolve_left (by omega))
      have := (List.getElem?_eq_some_iff.1 hi).1
      rw [code0_at v.nodup hi]; exact .inr ⟨by omega, by omega⟩
  have ci : ∀ i, (i < 2 ∨ (2 ≤ i ∧ i < s.2.length + 2)) → code0 s.2 (cofN s.2 i) = i ∧ (cofN s.2 i < 2 ∨ cofN s.2 i ∈ s.2) ∧ (2 ≤ i → cofN s.2 i = s.2.getD (i - 2) 0 ∧ 2 ≤ cofN s.2 i) := fun i hi => by
    unfold cofN
    rcases hi with x | ⟨x, y⟩
    · rw [if_pos x]; exact ⟨code0_low x (low i x), .inl x, fun z => by omega⟩
    · rw [if_neg (by omega)]
      refine ⟨?_, .inr (mV _ (by omega)), fun _ => ⟨rfl, (v.st _ (mV _ (by omega))).2⟩⟩
      rw [code0_at v.nodup (gV (i - 2) (by omega))]; omega
  have eE : ((vld M fs).map (code0 s.2)).map (semN M s.2) = (vld M fs).map M.sem := by
    rw [List.map_map]
    exact List.map_congr_left (fun f hf => by show M.sem (cofN s.2 (code0 s.2 f)) = _; rw [cc f (vm f hf)])
  refine ⟨?_, eE⟩
  obtain ⟨D, hD⟩ : ∃ D, D = mkD M.order (saveN M s.2) s.2.length ((saveN M s.2).flatMap kidsN ++ (vld M fs).map (code0 s.2)) := ⟨_, rfl⟩
  have hkid : D.kids.Perm ((saveN M s.2).flatMap kidsN) := by
    rw [hD, ← lN]; exact mkD_kids _ _ _
  have hlive : ∀ {i}, D.live i ↔ 2 ≤ i ∧ i < s.2.length + 2 := by rw [hD]; exact mkD_live
  have hok : ∀ {i}, D.ok i ↔ i < 2 ∨ (2 ≤ i ∧ i < s.2.length + 2) := by
    intro i
    show i < 2 ∨ D.live i ↔ _
    rw [hlive]
  have stc : ∀ {i}, D.ok i → M.stored (cofN s.2 i) := fun {i} hi => by
    rcases (ci i (hok.1 hi)).2.1 with x | x
    · exact .inl x
    · exact (v.st _ x).1
  have ndi : ∀ i, D.live i → D.nd i = ((M.nd (cofN s.2 i)).1, code0 s.2 (M.nd (cofN s.2 i)).2.1, code0 s.2 (M.nd (cofN s.2 i)).2.2) ∧ 2 ≤ cofN s.2 i ∧ ((M.nd (cofN s.2 i)).2.1 < 2 ∨ (M.nd (cofN s.2 i)).2.1 ∈ s.2) ∧ ((M.nd (cofN s.2 i)).2.2 < 2 ∨ (M.nd (cofN s.2 i)).2.2 ∈ s.2) := fun i hi => by
    obtain ⟨h1, h2⟩ := hlive.1 hi
    obtain ⟨e1, e2⟩ := (ci i (.inr ⟨h1, h2⟩)).2.2 h1
    refine ⟨?_, e2, ?_⟩
    · rw [hD]
      show (if i < 2 then nZ else (saveN M s.2).getD (i - 2) nZ) = _
      rw [if_neg (by omega), gN _ (by omega), e1]
    · rw [e1]
      have q1 := v.child (gV (i - 2) (by omega)) (.inl rfl)
      have q2 := v.child (gV (i - 2) (by omega)) (.inr rfl)
      exact ⟨q1.2.2, q2.2.2⟩
  have posv : ∀ u, u < M.n → D.pos u = M.lev u := fun u hu => by rw [hD]; exact posO_lev h hu
  have depi : ∀ i, D.ok i → D.dep 0 [] i = M.depth (cofN s.2 i) := fun i hi => by
    rcases hi with x | x
    · have e : cofN s.2 i = i := by unfold cofN; rw [if_pos x]
      unfold Dg.dep Mgr.depth
      rw [if_pos x, e, if_pos x, hD]; rfl
    · obtain ⟨e1, e2, _⟩ := ndi i x
      rw [Dg.dep_live x (by simp), e1]
      obtain ⟨v0, v1, _⟩ := Mgr.node_of h (stc (.inr x)) e2
      rw [posv _ (by omega)]
      unfold Mgr.depth
      rw [if_neg (by omega)]
  have ori : ∀ f, f ∈ s.2 → ∃ F, F ∈ (vld M fs).map M.sem ∧ Rst F (M.sem f) := fun f hf => SubL.rst _ _ (dia.up _ f hf (Nat.lt_succ_self _))
  have rdF : ∀ F, F ∈ (vld M fs).map M.sem → Rd 0 M.n F := fun F hF => by
    obtain ⟨f, hf, rfl⟩ := List.mem_map.1 hF
    exact Mgr.sem_rd h (hst f hf)
  have inj' : ∀ i j, D.ok i → D.ok j → semN M s.2 i = semN M s.2 j → i = j := fun i j hi hj e => by
    have := Mgr.canon h (stc hi) (stc hj) (fun a => congrFun e a)
    rw [← (ci i (hok.1 hi)).1, ← (ci j (hok.1 hj)).1, this]
  have rs' : ∀ i, D.live i → ∃ F, F ∈ (vld M fs).map M.sem ∧ Rst F (semN M s.2 i) := fun i hi => by
    obtain ⟨_, e2, _⟩ := ndi i hi
    exact ori _ ((ci i (.inr (hlive.1 hi))).2.1.resolve_left (by omega))
  have lenL : D.liveL.length = s.2.length := by
    rw [hD, (mkD_liveL _ _ _ _).length_eq]; simp
  rw [← hD]
  exact
  { perm := by rw [hD]; exact h.perm
    two := by rw [hD]; show 2 ≤ s.2.length + 2; omega
    spn := by rw [hD]; exact List.nodup_nil
    spr := by rw [hD]; intro i hi; cases hi
    cv := by rw [hD]; exact ⟨rfl, rfl⟩
    s0 := funext fun a => by show M.sem (cofN s.2 0) a = false; unfold cofN; rw [if_pos (by omega)]; exact Mgr.sem_zero M a
    s1 := funext fun a => by show M.sem (cofN s.2 1) a = true; unfold cofN; rw [if_pos (by omega)]; exact Mgr.sem_one M a
    nd := fun i hi => by
      obtain ⟨e1, e2, k1, k2⟩ := ndi i hi
      obtain ⟨v0, v1, sl, sh, ne, _⟩ := Mgr.node_of h (stc (.inr hi)) e2
      refine ⟨by rw [e1]; exact v0, ?_, ?_, ?_, ?_, ?_⟩
      · rw [e1, hD]; show (M.nd _).1.toNat < M.n; omega
      · rw [e1]; exact hok.2 (cl _ k1)
      · rw [e1]; exact hok.2 (cl _ k2)
      · rw [e1]
        exact fun e => ne (by rw [← cc _ k1, ← cc _ k2]; exact congrArg _ e)
      · rw [e1]
        funext a
        show M.sem (cofN s.2 i) a = if a (M.nd (cofN s.2 i)).1.toNat then M.sem (cofN s.2 (code0 s.2 (M.nd (cofN s.2 i)).2.2)) a else M.sem (cofN s.2 (code0 s.2 (M.nd (cofN s.2 i)).2.1)) a
        rw [cc _ k1, cc _ k2]
        exact Mgr.sem_node h (stc (.inr hi)) e2 a
    inj := inj'
    dp := fun i hi _ => by
      obtain ⟨e1, e2, k1, k2⟩ := ndi i hi
      obtain ⟨v0, v1, sl, sh, ne, d1, d2⟩ := Mgr.node_of h (stc (.inr hi)) e2
      have hd : M.depth (cofN s.2 i) = M.lev (M.nd (cofN s.2 i)).1.toNat := by unfold Mgr.depth; rw [if_neg (by omega)]
      rw [e1, posv _ (show (M.nd (cofN s.2 i)).1.toNat < M.n by omega), depi _ (hok.2 (cl _ k1)), depi _ (hok.2 (cl _ k2)), cc _ k1, cc _ k2, ← hd]
      exact ⟨d1, d2⟩
    ind := fun i hi a b hab => by
      refine Mgr.sem_agree h _ _ (stc hi) (Nat.le_refl _) a b (fun u hu hd => hab u (by rw [hD]; exact hu) ?_)
      rw [depi i hi, posv u hu]; exact hd
    pk := fun i hi => by cases hi
    pn := List.nodup_nil
    tb := fun u hu p i => by
      have e : D.tab = tabN (saveN M s.2) s.2.length := by rw [hD]; rfl
      have en : ∀ i, 2 ≤ i → D.nd i = (saveN M s.2).getD (i - 2) nZ := fun i hi => by rw [hD]; exact if_neg (by omega)
      rw [e, tabN_iff (fun i j hi hj e1 e2 => ?_) u p i _ (by omega), hlive]
      · constructor
        · rintro ⟨h1, h2, h3, h4⟩
          have l : D.live i := hlive.2 ⟨h1, h2⟩
          obtain ⟨e1, e2, _⟩ := ndi i l
          obtain ⟨v0, _⟩ := Mgr.node_of h (stc (.inr l)) e2
          rw [← en i h1] at h3 h4
          have e1' : (D.nd i).1 = (M.nd (cofN s.2 i)).1 := by rw [e1]
          exact ⟨⟨h1, h2⟩, by simp, by omega, h4⟩
        · rintro ⟨⟨h1, h2⟩, _, h3, h4⟩
          rw [en i h1] at h3 h4
          exact ⟨h1, h2, by omega, h4⟩
      · have nodv : ∀ i, i < s.2.length → 0 ≤ ((saveN M s.2).getD i nZ).1 := fun i hi => by
          rw [gN i hi]
          have m := v.st _ (mV i hi)
          exact (Mgr.node_of h m.1 m.2).1
        have hi' : i < s.2.length := by omega
        have hj' : j < s.2.length := by omega
        have n1 := nodv i hi'
        have n2 := nodv j hj'
        have ex : (saveN M s.2)[j]? = some ((saveN M s.2).getD j nZ) := by rw [List.getD_eq_getElem?_getD, List.getElem?_eq_getElem hj]; rfl
        have ey : (saveN M s.2)[i]? = some ((saveN M s.2).getD j nZ) := by
          rw [← show (saveN M s.2).getD i nZ = (saveN M s.2).getD j nZ from Prod.ext (by omega) e2, List.getD_eq_getElem?_getD, List.getElem?_eq_getElem hi]; rfl
        exact (v.node_at h ex).2.2.2 i ey
    rf := fun i _ => by
      have : D.rf = countF ((saveN M s.2).flatMap kidsN ++ (vld M fs).map (code0 s.2)) := by rw [hD]; rfl
      rw [this]
      unfold countF
      rw [(hkid.append_right _).count_eq]
    use := fun i hi => by
      obtain ⟨h1, h2⟩ := hlive.1 hi
      obtain ⟨c1, c2, c3⟩ := ci i (.inr ⟨h1, h2⟩)
      have m : cofN s.2 i ∈ s.2 := c2.resolve_left (by have := (c3 h1).2; omega)
      rcases dia.rch _ m with x | ⟨c, hc, x⟩
      · exact List.mem_append.2 (.inr (List.mem_map.2 ⟨_, x, c1⟩))
      · refine List.mem_append.2 (.inl (Dg.mem_kids.2 ?_))
        obtain ⟨j, hj⟩ := List.mem_iff_getElem?.1 hc
        have hjl := (List.getElem?_eq_some_iff.1 hj).1
        have l : D.live (j + 2) := hlive.2 ⟨by omega, by omega⟩
        have ec : cofN s.2 (j + 2) = c := by
          rw [((ci (j + 2) (.inr ⟨by omega, by omega⟩)).2.2 (by omega)).1, Nat.add_sub_cancel, List.getD_eq_getElem?_getD, hj]; rfl
        obtain ⟨e1, _⟩ := ndi _ l
        refine ⟨j + 2, l, ?_⟩
        rw [e1, ec]
        exact x.imp (fun e => by rw [← c1, e]) (fun e => by rw [← c1, e])
    eok := fun i hi => by
      obtain ⟨f, hf, rfl⟩ := List.mem_map.1 hi
      exact hok.2 (cl f (vm f hf))
    tot := by rw [lenL, hD]; exact lN
    rs := rs'
    rd := by rw [hD]; exact rdF
    len := by
      have := Dg.total_bound inj' rs' (by rw [hD]; exact rdF)
      rw [lenL] at this
      have e : D.len = s.2.length + 2 := by rw [hD]; rfl
      omega }

end Go.Proofs.YtngbodmooddjbaaGreat
