/-
  How a manager of the package bdd lies in memory.
-/
import Derived.Test.YtdgnbbmgcgfibaaGreatDoorRows
import Derived.WalkKit
import Derived.WalkSpells
import Derived.WalkLawsBesides
import Derived.Lib.Hide
import Derived.Deep.AppendLies
import Derived.Laws.Tables
import Derived.ProofKit
import Derived.OpenShut
namespace Go.Proofs.YtdgnbbmgcgfibaaGreatDoor

/-- A node: its variable (-1: none), its children. -/
abbrev Nd := Int × Nat × Nat

structure Mgr where
  order : List Nat
  level : List Nat
  nodes : List Nd
  shown : List Bool
  free : List Nat

namespace Mgr

def n (M : Mgr) : Nat := M.order.length
def nd (M : Mgr) (f : Nat) : Nd := M.nodes.getD f (-1, 0, 0)
def lev (M : Mgr) (v : Nat) : Nat := M.level.getD v 0
def ord (M : Mgr) (i : Nat) : Nat := M.order.getD i 0
def stored (M : Mgr) (f : Nat) : Prop := f < 2 ∨ (f < M.nodes.length ∧ (M.nd f).1 ≠ -1)
def depth (M : Mgr) (f : Nat) : Nat := if f < 2 then M.n else M.lev (M.nd f).1.toNat
def vis (M : Mgr) (f : Nat) : Bool := M.shown.getD f false

structure WF (M : Mgr) : Prop where
  len : M.level.length = M.order.length
  ol : ∀ v, v < M.n → M.lev v < M.n ∧ M.ord (M.lev v) = v
  lo_ : ∀ i, i < M.n → M.ord i < M.n ∧ M.lev (M.ord i) = i
  two : 2 ≤ M.nodes.length
  nd0 : M.nd 0 = (-1, 0, 0)
  nd1 : M.nd 1 = (-1, 0, 0)
  sh : M.shown.length = M.nodes.length
  sh0 : M.vis 0 = true
  sh1 : M.vis 1 = true
  shst : ∀ f, M.vis f = true → M.stored f
  node : ∀ f, 2 ≤ f → f < M.nodes.length → (M.nd f).1 ≠ -1 →
    0 ≤ (M.nd f).1 ∧ (M.nd f).1 < M.n ∧ M.stored (M.nd f).2.1 ∧ M.stored (M.nd f).2.2 ∧ (M.nd f).2.1 ≠ (M.nd f).2.2 ∧
    M.lev (M.nd f).1.toNat < M.depth (M.nd f).2.1 ∧ M.lev (M.nd f).1.toNat < M.depth (M.nd f).2.2
  inj : ∀ f g, 2 ≤ f → 2 ≤ g → f < M.nodes.length → g < M.nodes.length → M.nd f = M.nd g → (M.nd f).1 ≠ -1 → f = g
  fr : ∀ f, f ∈ M.free → 2 ≤ f ∧ f < M.nodes.length ∧ (M.nd f).1 = -1
  fnd : M.free.Nodup

def semF (M : Mgr) : Nat → Nat → (Nat → Bool) → Bool
  | 0, f, _ => f == 1
  | k + 1, f, a => if f < 2 then f == 1 else if a (M.nd f).1.toNat then semF M k (M.nd f).2.2 a else semF M k (M.nd f).2.1 a

def sem (M : Mgr) (f : Nat) (a : Nat → Bool) : Bool := M.semF (M.n + 1) f a

theorem depth_le {M : Mgr} (h : M.WF) {f : Nat} (hf : M.stored f) : M.depth f ≤ M.n := by
  unfold depth
  split
  · exact Nat.le_refl _
  · rcases hf with hf | ⟨h1, h2⟩
    · omega
    · obtain ⟨a, b, _⟩ := h.node f (by omega) h1 h2
      exact Nat.le_of_lt (h.ol _ (by omega)).1

theorem depth_lt {M : Mgr} (h : M.WF) {f : Nat} (hf : M.stored f) (h2 : 2 ≤ f) : M.depth f < M.n := by
  unfold depth
  rw [if_neg (by omega)]
  rcases hf with hf | ⟨h1, h3⟩
  · omega
  · obtain ⟨a, b, _⟩ := h.node f (by omega) h1 h3
    exact (h.ol _ (by omega)).1

/-- What is known of a stored node that is no constant. -/
theorem node_of {M : Mgr} (h : M.WF) {f : Nat} (hf : M.stored f) (h2 : 2 ≤ f) :
    0 ≤ (M.nd f).1 ∧ (M.nd f).1 < M.n ∧ M.stored (M.nd f).2.1 ∧ M.stored (M.nd f).2.2 ∧ (M.nd f).2.1 ≠ (M.nd f).2.2 ∧
    M.depth f < M.depth (M.nd f).2.1 ∧ M.depth f < M.depth (M.nd f).2.2 := by
  rcases hf with hf | ⟨h1, h3⟩
  · omega
  · have := h.node f h2 h1 h3
    have hd : M.depth f = M.lev (M.nd f).1.toNat := by unfold depth; rw [if_neg (by omega)]
    rw [hd]; exact this

theorem semF_fuel {M : Mgr} (h : M.WF) (a : Nat → Bool) : ∀ (k k' f : Nat), M.stored f → M.n - M.depth f < k → M.n - M.depth f < k' → M.semF k f a = M.semF k' f a
  | 0, _, _, _, h1, _ => by omega
  | _ + 1, 0, _, _, _, h2 => by omega
  | k + 1, k' + 1, f, hf, h1, h2 => by
    unfold semF
    by_cases h3 : f < 2
    · simp [h3]
    · obtain ⟨_, _, sl, sh, _, dl, dh⟩ := node_of h hf (by omega)
      have := depth_le h sl
      have := depth_le h sh
      rw [if_neg h3, if_neg h3, semF_fuel h a k k' _ sl (by omega) (by omega), semF_fuel h a k k' _ sh (by omega) (by omega)]

theorem sem_const (M : Mgr) (f : Nat) (a : Nat → Bool) (h : f < 2) : M.sem f a = (f == 1) := by
  unfold sem semF; rw [if_pos h]

@[simp] theorem sem_zero (M : Mgr) (a : Nat → Bool) : M.sem 0 a = false := by rw [sem_const M 0 a (by omega)]; rfl
@[simp] theorem sem_one (M : Mgr) (a : Nat → Bool) : M.sem 1 a = true := by rw [sem_const M 1 a (by omega)]; rfl

theorem sem_node {M : Mgr} (h : M.WF) {f : Nat} (hf : M.stored f) (h2 : 2 ≤ f) (a : Nat → Bool) :
    M.sem f a = if a (M.nd f).1.toNat then M.sem (M.nd f).2.2 a else M.sem (M.nd f).2.1 a := by
  obtain ⟨_, _, sl, sh, _, dl, dh⟩ := node_of h hf h2
  have := depth_le h sl
  have := depth_le h sh
  have e1 : M.sem (M.nd f).2.2 a = M.semF M.n (M.nd f).2.2 a := semF_fuel h a _ _ _ sh (by omega) (by omega)
  have e2 : M.sem (M.nd f).2.1 a = M.semF M.n (M.nd f).2.1 a := semF_fuel h a _ _ _ sl (by omega) (by omega)
  rw [e1, e2]
  show M.semF (M.n + 1) f a = _
  conv => lhs; unfold semF
  rw [if_neg (by omega)]

/-- A function reads only the variables from its level on. -/
theorem sem_agree {M : Mgr} (h : M.WF) : ∀ (k f : Nat), M.stored f → M.n - M.depth f ≤ k → ∀ (a b : Nat → Bool), (∀ v, v < M.n → M.depth f ≤ M.lev v → a v = b v) → M.sem f a = M.sem f b
  | 0, f, hf, hk, a, b, _ => by
    by_cases h2 : f < 2
    · rw [sem_const _ _ _ h2, sem_const _ _ _ h2]
    · have := depth_lt h hf (by omega); omega
  | k + 1, f, hf, hk, a, b, hab => by
    by_cases h2 : f < 2
    · rw [sem_const _ _ _ h2, sem_const _ _ _ h2]
    · obtain ⟨v0, v1, sl, sh, _, dl, dh⟩ := node_of h hf (by omega)
      have hd : M.depth f = M.lev (M.nd f).1.toNat := by unfold depth; rw [if_neg (by omega)]
      rw [sem_node h hf (by omega), sem_node h hf (by omega), hab (M.nd f).1.toNat (by omega) (by omega),
        sem_agree h k _ sl (by omega) a b (fun v h1 h3 => hab v h1 (by omega)), sem_agree h k _ sh (by omega) a b (fun v h1 h3 => hab v h1 (by omega))]

def upd (a : Nat → Bool) (v : Nat) (b : Bool) : Nat → Bool := fun u => if u = v then b else a u

@[simp] theorem upd_same (a : Nat → Bool) (v : Nat) (b : Bool) : upd a v b v = b := by simp [upd]
theorem upd_other (a : Nat → Bool) (v u : Nat) (b : Bool) (h : u ≠ v) : upd a v b u = a u := by simp [upd, h]

theorem sem_upd {M : Mgr} (h : M.WF) {f : Nat} (hf : M.stored f) (a : Nat → Bool) (v : Nat) (b : Bool) (hv : M.lev v < M.depth f) : M.sem f (upd a v b) = M.sem f a :=
  sem_agree h _ f hf (Nat.le_refl _) _ _ (fun u _ h2 => upd_other a v u b (fun e => by subst e; omega))

/-- The children are the cofactors. -/
theorem sem_lo {M : Mgr} (h : M.WF) {f : Nat} (hf : M.stored f) (h2 : 2 ≤ f) (a : Nat → Bool) : M.sem (M.nd f).2.1 a = M.sem f (upd a (M.nd f).1.toNat false) := by
  obtain ⟨_, _, sl, sh, _, dl, dh⟩ := node_of h hf h2
  have hd : M.depth f = M.lev (M.nd f).1.toNat := by unfold depth; rw [if_neg (by omega)]
  rw [sem_node h hf h2, upd_same]
  simp only [Bool.false_eq_true, if_false]
  rw [sem_upd h sl _ _ _ (by omega)]

theorem sem_hi {M : Mgr} (h : M.WF) {f : Nat} (hf : M.stored f) (h2 : 2 ≤ f) (a : Nat → Bool) : M.sem (M.nd f).2.2 a = M.sem f (upd a (M.nd f).1.toNat true) := by
  obtain ⟨_, _, sl, sh, _, dl, dh⟩ := node_of h hf h2
  have hd : M.depth f = M.lev (M.nd f).1.toNat := by unfold depth; rw [if_neg (by omega)]
  rw [sem_node h hf h2, upd_same]
  simp only [if_true]
  rw [sem_upd h sh _ _ _ (by omega)]

theorem lev_inj {M : Mgr} (h : M.WF) {u v : Nat} (hu : u < M.n) (hv : v < M.n) (e : M.lev u = M.lev v) : u = v := by
  rw [← (h.ol u hu).2, ← (h.ol v hv).2, e]

/-- If f reads no variable above level d then .. : a node whose function does not depend on its variable is none. -/
theorem not_indep {M : Mgr} (h : M.WF) (canon : ∀ f g, M.stored f → M.stored g → (∀ a, M.sem f a = M.sem g a) → f = g)
    {f : Nat} (hf : M.stored f) (h2 : 2 ≤ f) (hi : ∀ a, M.sem f (upd a (M.nd f).1.toNat false) = M.sem f (upd a (M.nd f).1.toNat true)) : False := by
  obtain ⟨_, _, sl, sh, ne, _, _⟩ := node_of h hf h2
  exact ne (canon _ _ sl sh (fun a => by rw [sem_lo h hf h2, sem_hi h hf h2, hi a]))

theorem canon_aux {M : Mgr} (h : M.WF) : ∀ (k f g : Nat), M.stored f → M.stored g → (M.n - M.depth f) + (M.n - M.depth g) ≤ k → (∀ a, M.sem f a = M.sem g a) → f = g := by
  intro k
  induction k with
  | zero =>
    intro f g hf hg hk e
    have df : f < 2 := by
      by_cases h2 : f < 2
      · exact h2
      · have := depth_lt h hf (by omega); omega
    have dg : g < 2 := by
      by_cases h2 : g < 2
      · exact h2
      · have := depth_lt h hg (by omega); omega
    have := e (fun _ => false)
    rw [sem_const _ _ _ df, sem_const _ _ _ dg] at this
    have h1 : f = 1 ↔ g = 1 := by
      constructor
      · intro x; subst x; simpa using this.symm
      · intro x; subst x; simpa using this
    omega
  | succ k ih =>
    -- one side: f is a node at a level that g does not reach
    have side : ∀ f g, M.stored f → M.stored g → 2 ≤ f → M.depth f < M.depth g → (M.n - M.depth f) + (M.n - M.depth g) ≤ k + 1 → (∀ a, M.sem f a = M.sem g a) → False := by
      intro f g hf hg h2 hd hk e
      obtain ⟨v0, v1, sl, sh, ne, dl, dh⟩ := node_of h hf h2
      have hdl := depth_le h sl
      have hdh := depth_le h sh
      have hdv : M.depth f = M.lev (M.nd f).1.toNat := by unfold depth; rw [if_neg (by omega)]
      have el : (M.nd f).2.1 = g := ih _ _ sl hg (by omega) (fun a => by rw [sem_lo h hf h2, e, sem_upd h hg _ _ _ (by omega)])
      have eh : (M.nd f).2.2 = g := ih _ _ sh hg (by omega) (fun a => by rw [sem_hi h hf h2, e, sem_upd h hg _ _ _ (by omega)])
      exact ne (el.trans eh.symm)
    intro f g hf hg hk e
    have hfn := depth_le h hf
    have hgn := depth_le h hg
    rcases Nat.lt_trichotomy (M.depth f) (M.depth g) with hlt | heq | hgt
    · have h2 : 2 ≤ f := by
        rcases Nat.lt_or_ge f 2 with h2 | h2
        · have : M.depth f = M.n := by unfold depth; rw [if_pos h2]
          omega
        · exact h2
      exact (side f g hf hg h2 hlt hk e).elim
    · by_cases h2 : f < 2
      · have hd : M.depth f = M.n := by unfold depth; rw [if_pos h2]
        have hg2 : g < 2 := by
          rcases Nat.lt_or_ge g 2 with h3 | h3
          · exact h3
          · have := depth_lt h hg h3; omega
        have := e (fun _ => false)
        rw [sem_const _ _ _ h2, sem_const _ _ _ hg2] at this
        have h1 : f = 1 ↔ g = 1 := by
          constructor
          · intro x; subst x; simpa using this.symm
          · intro x; subst x; simpa using this
        omega
      · have hdl := depth_lt h hf (by omega)
        have hg2 : 2 ≤ g := by
          rcases Nat.lt_or_ge g 2 with h3 | h3
          · have : M.depth g = M.n := by unfold depth; rw [if_pos h3]
            omega
          · exact h3
        obtain ⟨v0, v1, sl, sh, ne, dl, dh⟩ := node_of h hf (by omega)
        obtain ⟨v0', v1', sl', sh', ne', dl', dh'⟩ := node_of h hg hg2
        have hdf : M.depth f = M.lev (M.nd f).1.toNat := by unfold depth; rw [if_neg (by omega)]
        have hdg : M.depth g = M.lev (M.nd g).1.toNat := by unfold depth; rw [if_neg (by omega)]
        have ev : (M.nd f).1.toNat = (M.nd g).1.toNat := lev_inj h (by omega) (by omega) (by omega)
        have q1 := depth_le h sl
        have q2 := depth_le h sh
        have q3 := depth_le h sl'
        have q4 := depth_le h sh'
        have el : (M.nd f).2.1 = (M.nd g).2.1 := ih _ _ sl sl' (by omega) (fun a => by rw [sem_lo h hf (by omega), sem_lo h hg hg2, e, ev])
        have eh : (M.nd f).2.2 = (M.nd g).2.2 := ih _ _ sh sh' (by omega) (fun a => by rw [sem_hi h hf (by omega), sem_hi h hg hg2, e, ev])
        have en : M.nd f = M.nd g := Prod.ext (by omega) (Prod.ext el eh)
        have hfl : f < M.nodes.length ∧ (M.nd f).1 ≠ -1 := hf.resolve_left h2
        have hgl : g < M.nodes.length ∧ (M.nd g).1 ≠ -1 := hg.resolve_left (by omega)
        exact h.inj f g (by omega) hg2 hfl.1 hgl.1 en hfl.2
    · have h2 : 2 ≤ g := by
        rcases Nat.lt_or_ge g 2 with h2 | h2
        · have : M.depth g = M.n := by unfold depth; rw [if_pos h2]
          omega
        · exact h2
      exact (side g f hg hf h2 hgt (by omega) (fun a => (e a).symm)).elim

/-- Two stored functions that are equal are one. -/
theorem canon {M : Mgr} (h : M.WF) {f g : Nat} (hf : M.stored f) (hg : M.stored g) (e : ∀ a, M.sem f a = M.sem g a) : f = g :=
  canon_aux h _ f g hf hg (Nat.le_refl _) e

/-- M' has all that M has stored, under the same numbers. -/
structure Ext (M M' : Mgr) : Prop where
  order : M'.order = M.order
  level : M'.level = M.level
  len : M.nodes.length ≤ M'.nodes.length
  nd : ∀ f, 2 ≤ f → M.stored f → M'.nd f = M.nd f
  vis : ∀ f, M'.vis f = M.vis f

theorem Ext.refl (M : Mgr) : Ext M M := ⟨rfl, rfl, Nat.le_refl _, fun _ _ _ => rfl, fun _ => rfl⟩

theorem Ext.n {M M' : Mgr} (e : Ext M M') : M'.n = M.n := by unfold Mgr.n; rw [e.order]
theorem Ext.lev {M M' : Mgr} (e : Ext M M') (v : Nat) : M'.lev v = M.lev v := by unfold Mgr.lev; rw [e.level]
theorem Ext.stored {M M' : Mgr} (e : Ext M M') {f : Nat} (hf : M.stored f) : M'.stored f := by
  by_cases h2 : f < 2
  · exact .inl h2
  · have := e.nd f (by omega) hf
    rcases hf with hf | ⟨h1, h3⟩
    · omega
    · exact .inr ⟨Nat.lt_of_lt_of_le h1 e.len, by rw [this]; exact h3⟩

theorem Ext.trans {M M' M'' : Mgr} (e : Ext M M') (e' : Ext M' M'') : Ext M M'' :=
  ⟨e'.order.trans e.order, e'.level.trans e.level, Nat.le_trans e.len e'.len, fun f h2 hf => (e'.nd f h2 (e.stored hf)).trans (e.nd f h2 hf), fun f => (e'.vis f).trans (e.vis f)⟩

theorem Ext.depth {M M' : Mgr} (e : Ext M M') {f : Nat} (hf : M.stored f) : M'.depth f = M.depth f := by
  unfold Mgr.depth
  by_cases h2 : f < 2
  · rw [if_pos h2, if_pos h2, e.n]
  · rw [if_neg h2, if_neg h2, e.nd f (by omega) hf, e.lev]

theorem Ext.semF {M M' : Mgr} (h : M.WF) (e : Ext M M') (a : Nat → Bool) : ∀ (k f : Nat), M.stored f → M'.semF k f a = M.semF k f a
  | 0, _, _ => rfl
  | k + 1, f, hf => by
    unfold Mgr.semF
    by_cases h2 : f < 2
    · rw [if_pos h2, if_pos h2]
    · obtain ⟨_, _, sl, sh, _⟩ := node_of h hf (by omega)
      rw [if_neg h2, if_neg h2, e.nd f (by omega) hf, Ext.semF h e a k _ sl, Ext.semF h e a k _ sh]

theorem Ext.sem {M M' : Mgr} (h : M.WF) (e : Ext M M') {f : Nat} (hf : M.stored f) (a : Nat → Bool) : M'.sem f a = M.sem f a := by
  unfold Mgr.sem
  rw [e.n]
  exact e.semF h a _ f hf

/-! ### finding and making nodes -/

def find (M : Mgr) (x : Nd) : Option Nat := (List.range M.nodes.length).find? (fun i => decide (2 ≤ i ∧ M.nd i = x))

theorem find_some {M : Mgr} {x : Nd} {r : Nat} (h : M.find x = some r) : 2 ≤ r ∧ r < M.nodes.length ∧ M.nd r = x := by
  have h1 := List.find?_some h
  have h2 := List.mem_of_find?_eq_some h
  simp at h1 h2
  exact ⟨h1.1, h2, h1.2⟩

theorem find_none {M : Mgr} {x : Nd} (h : M.find x = none) : ∀ r, 2 ≤ r → r < M.nodes.length → M.nd r ≠ x := by
  intro r h2 hr e
  unfold find at h
  rw [List.find?_eq_none] at h
  have := h r (by simpa using hr)
  simp [h2, e] at this

theorem find_eq {M : Mgr} (h : M.WF) {r : Nat} (h2 : 2 ≤ r) (hr : M.stored r) : M.find (M.nd r) = some r := by
  have hr' : r < M.nodes.length ∧ (M.nd r).1 ≠ -1 := hr.resolve_left (by omega)
  cases hx : M.find (M.nd r) with
  | none => exact (find_none hx r h2 hr'.1 rfl).elim
  | some g =>
    obtain ⟨g2, gl, ge⟩ := find_some hx
    rw [h.inj r g h2 g2 hr'.1 gl ge.symm hr'.2]

/-- The function 'node' of the program. -/
def put (M : Mgr) (v lo hi : Nat) : Mgr × Nat :=
  if lo = hi then (M, lo) else
  match M.find ((v : Int), lo, hi) with
  | some r => (M, r)
  | none =>
    match M.free.getLast? with
    | some f => ({ M with nodes := M.nodes.set f ((v : Int), lo, hi), free := M.free.dropLast }, f)
    | none => ({ M with nodes := M.nodes ++ [((v : Int), lo, hi)], shown := M.shown ++ [false] }, M.nodes.length)

/-- A store with one node more, at a place that was free or new. -/
theorem add_wf {M M' : Mgr} (h : M.WF) {v lo hi r : Nat} (hv : v < M.n) (hl : M.stored lo) (hh : M.stored hi) (ne : lo ≠ hi) (dl : M.lev v < M.depth lo) (dh : M.lev v < M.depth hi)
    (hno : ∀ r, 2 ≤ r → r < M.nodes.length → M.nd r ≠ ((v : Int), lo, hi))
    (e1 : M'.order = M.order) (e2 : M'.level = M.level) (hr2 : 2 ≤ r) (hrM : ¬ M.stored r) (hlen : M.nodes.length ≤ M'.nodes.length) (hrl : r < M'.nodes.length)
    (hll : ∀ f, f < M'.nodes.length → f < M.nodes.length ∨ f = r)
    (hnew : M'.nd r = ((v : Int), lo, hi)) (hold : ∀ f, f ≠ r → M'.nd f = M.nd f) (hsh : M'.shown.length = M'.nodes.length) (hvis : ∀ f, M'.vis f = M.vis f)
    (hfr : ∀ f, f ∈ M'.free → f ∈ M.free ∧ f ≠ r) (hfn : M'.free.Nodup) : M'.WF ∧ Ext M M' ∧ M'.stored r := by
  have hn : M'.n = M.n := by unfold Mgr.n; rw [e1]
  have hlev : ∀ u, M'.lev u = M.lev u := fun u => by unfold Mgr.lev; rw [e2]
  have hord : ∀ u, M'.ord u = M.ord u := fun u => by unfold Mgr.ord; rw [e1]
  have he : Ext M M' := ⟨e1, e2, hlen, fun f _ hf => hold f (fun e => hrM (e ▸ hf)), hvis⟩
  have hst : M'.stored r := .inr ⟨hrl, by rw [hnew]; simp⟩
  refine ⟨⟨by rw [e1, e2]; exact h.len, ?_, ?_, Nat.le_trans h.two hlen, ?_, ?_, hsh, ?_, ?_, ?_, ?_, ?_, ?_, hfn⟩, he, hst⟩
  · intro u hu; rw [hlev, hord, hn]; exact h.ol u (hn ▸ hu)
  · intro i hi; rw [hlev, hord, hn]; exact h.lo_ i (hn ▸ hi)
  · rw [hold 0 (by omega)]; exact h.nd0
  · rw [hold 1 (by omega)]; exact h.nd1
  · rw [hvis]; exact h.sh0
  · rw [hvis]; exact h.sh1
  · intro f hf; rw [hvis] at hf; exact he.stored (h.shst f hf)
  · intro f h2 hf hf1
    by_cases e : f = r
    · subst e
      rw [hnew]
      refine ⟨by simp, by rw [hn]; simpa using hv, he.stored hl, he.stored hh, ne, ?_, ?_⟩
      · rw [he.depth hl, hlev]; simpa using dl
      · rw [he.depth hh, hlev]; simpa using dh
    · have hfM : f < M.nodes.length := (hll f hf).resolve_right e
      rw [hold f e] at hf1 ⊢
      obtain ⟨a1, a2, a3, a4, a5, a6, a7⟩ := h.node f h2 hfM hf1
      refine ⟨a1, by rw [hn]; exact a2, he.stored a3, he.stored a4, a5, ?_, ?_⟩
      · rw [he.depth a3, hlev]; exact a6
      · rw [he.depth a4, hlev]; exact a7
  · intro f g f2 g2 hf hg e ev
    by_cases ef : f = r
    · by_cases eg : g = r
      · rw [ef, eg]
      · exfalso
        rw [ef, hnew, hold g eg] at e
        exact hno g g2 ((hll g hg).resolve_right eg) e.symm
    · by_cases eg : g = r
      · exfalso
        rw [eg, hnew, hold f ef] at e
        exact hno f f2 ((hll f hf).resolve_right ef) e
      · rw [hold f ef, hold g eg] at e
        rw [hold f ef] at ev
        exact h.inj f g f2 g2 ((hll f hf).resolve_right ef) ((hll g hg).resolve_right eg) e ev
  · intro f hf
    obtain ⟨a1, a2⟩ := hfr f hf
    obtain ⟨b1, b2, b3⟩ := h.fr f a1
    exact ⟨b1, Nat.lt_of_lt_of_le b2 hlen, by rw [hold f a2]; exact b3⟩

structure PutSpec (M : Mgr) (v lo hi : Nat) (M' : Mgr) (r : Nat) : Prop where
  wf : M'.WF
  ext : Ext M M'
  st : M'.stored r
  sem : ∀ a, M'.sem r a = if a v then M.sem hi a else M.sem lo a
  dep : M.lev v ≤ M'.depth r
  len : M'.nodes.length ≤ M.nodes.length + 1

theorem put_spec {M : Mgr} (h : M.WF) {v lo hi : Nat} (hv : v < M.n) (hl : M.stored lo) (hh : M.stored hi) (dl : M.lev v < M.depth lo) (dh : M.lev v < M.depth hi) :
    PutSpec M v lo hi (M.put v lo hi).1 (M.put v lo hi).2 := by
  unfold put
  by_cases e : lo = hi
  · rw [if_pos e]
    exact ⟨h, .refl M, hl, fun a => by subst e; simp, Nat.le_of_lt dl, by simp⟩
  · rw [if_neg e]
    have fin : ∀ (M' : Mgr) (r : Nat), M'.WF → Ext M M' → M'.stored r → 2 ≤ r → M'.nd r = ((v : Int), lo, hi) → M'.nodes.length ≤ M.nodes.length + 1 → PutSpec M v lo hi M' r := by
      intro M' r hw he hs h2 hn hlen
      refine ⟨hw, he, hs, fun a => ?_, ?_, hlen⟩
      · rw [sem_node hw hs h2, hn]
        simp only [Int.toNat_natCast]
        rw [he.sem h hl, he.sem h hh]
      · unfold depth
        rw [if_neg (by omega), hn, he.lev]; simp
    cases hf : M.find ((v : Int), lo, hi) with
    | some r =>
      obtain ⟨r2, rl, rn⟩ := find_some hf
      exact fin M r h (.refl M) (.inr ⟨rl, by rw [rn]; simp⟩) r2 rn (by simp)
    | none =>
      have hno := find_none hf
      cases hg : M.free.getLast? with
      | some f =>
        have hmem : f ∈ M.free := List.mem_of_getLast? hg
        obtain ⟨f2, fl, fv⟩ := h.fr f hmem
        have hnewnd : ({ M with nodes := M.nodes.set f ((v : Int), lo, hi), free := M.free.dropLast } : Mgr).nd f = ((v : Int), lo, hi) := by simp [nd, fl]
        have hsplit : M.free = M.free.dropLast ++ [f] := by
          rw [List.getLast?_eq_some_iff] at hg
          obtain ⟨ys, hy⟩ := hg
          rw [hy]; simp
        have hnd : (M.free.dropLast ++ [f]).Nodup := hsplit ▸ h.fnd
        obtain ⟨a1, a2, a3⟩ := add_wf (M := M) (M' := { M with nodes := M.nodes.set f ((v : Int), lo, hi), free := M.free.dropLast }) (r := f) h hv hl hh e dl dh hno rfl rfl f2
          (fun hs => by rcases hs with hs | ⟨_, hs⟩ <;> first | omega | exact hs fv) (by simp) (by simpa using fl) (fun g hg => by simp at hg; exact .inl hg) hnewnd
          (fun g hne => by simp [nd, Ne.symm hne]) (by simpa using h.sh) (fun g => rfl)
          (fun g hg => by
            refine ⟨by rw [hsplit]; exact List.mem_append_left _ hg, fun e => ?_⟩
            subst e
            rw [List.nodup_append] at hnd
            exact hnd.2.2 g hg g (by simp) rfl)
          (by rw [List.nodup_append] at hnd; exact hnd.1)
        exact fin _ f a1 a2 a3 f2 hnewnd (by simp)
      | none =>
        have hnewnd : ({ M with nodes := M.nodes ++ [((v : Int), lo, hi)], shown := M.shown ++ [false] } : Mgr).nd M.nodes.length = ((v : Int), lo, hi) := by simp [nd]
        have hfree : M.free = [] := by simpa using hg
        have h2 := h.two
        obtain ⟨a1, a2, a3⟩ := add_wf (M := M) (M' := { M with nodes := M.nodes ++ [((v : Int), lo, hi)], shown := M.shown ++ [false] }) (r := M.nodes.length) h hv hl hh e dl dh hno rfl rfl h2
          (fun hs => by rcases hs with hs | ⟨hs, _⟩ <;> omega) (by simp) (by simp) (fun g hg => by simp at hg; omega) hnewnd
          (fun g hne => by
            simp only [nd, List.getD_eq_getElem?_getD, List.getElem?_append]
            split
            · rfl
            · rw [List.getElem?_eq_none (by simp; omega), List.getElem?_eq_none (by omega)])
          (by simp [h.sh]) (fun g => by
            simp only [vis, List.getD_eq_getElem?_getD, List.getElem?_append]
            split
            · rfl
            · rename_i hh
              rw [List.getElem?_eq_none (l := M.shown) (by omega)]
              by_cases e0 : g - M.shown.length = 0
              · rw [e0]; rfl
              · rw [List.getElem?_eq_none (by simp; omega)])
          (fun g hg => by simp [hfree] at hg) (by simp [hfree])
        exact fin _ _ a1 a2 a3 h2 hnewnd (by simp)

/-- If the function is there already, nothing is made. -/
theorem put_there {M : Mgr} (h : M.WF) {v lo hi r : Nat} (hv : v < M.n) (hl : M.stored lo) (hh : M.stored hi) (dl : M.lev v < M.depth lo) (dh : M.lev v < M.depth hi)
    (hr : M.stored r) (e : ∀ a, M.sem r a = if a v then M.sem hi a else M.sem lo a) : M.put v lo hi = (M, r) := by
  have low : ∀ a, M.sem lo a = M.sem r (upd a v false) := fun a => by rw [e, upd_same]; simp only [Bool.false_eq_true, if_false]; rw [sem_upd h hl _ _ _ dl]
  have high : ∀ a, M.sem hi a = M.sem r (upd a v true) := fun a => by rw [e, upd_same]; simp only [if_true]; rw [sem_upd h hh _ _ _ dh]
  unfold put
  by_cases eq : lo = hi
  · rw [if_pos eq]
    rw [canon h hl hr (fun a => by rw [e a, eq]; simp)]
  · rw [if_neg eq]
    -- the variable of r is v
    have h2 : 2 ≤ r := by
      rcases Nat.lt_or_ge r 2 with h2 | h2
      · exact (eq (canon h hl hh (fun a => by rw [low, high, sem_const _ _ _ h2, sem_const _ _ _ h2]))).elim
      · exact h2
    obtain ⟨v0, v1, sl, sh, ne, rl, rh⟩ := node_of h hr h2
    have hd : M.depth r = M.lev (M.nd r).1.toNat := by unfold depth; rw [if_neg (by omega)]
    have ev : (M.nd r).1.toNat = v := by
      rcases Nat.lt_trichotomy (M.depth r) (M.lev v) with hlt | heq | hgt
      · exfalso
        have hne : v ≠ (M.nd r).1.toNat := fun x => by rw [← x] at hd; omega
        refine ne (canon h sl sh (fun a => ?_))
        rw [sem_lo h hr h2, sem_hi h hr h2, e, e, upd_other _ _ _ _ hne, upd_other _ _ _ _ hne,
          sem_upd h hl _ _ _ (by omega), sem_upd h hl _ _ _ (by omega), sem_upd h hh _ _ _ (by omega), sem_upd h hh _ _ _ (by omega)]
      · exact lev_inj h (by omega) hv (by omega)
      · exact (eq (canon h hl hh (fun a => by rw [low, high, sem_upd h hr _ _ _ hgt, sem_upd h hr _ _ _ hgt]))).elim
    have el : (M.nd r).2.1 = lo := canon h sl hl (fun a => by rw [sem_lo h hr h2, ev, low])
    have eh : (M.nd r).2.2 = hi := canon h sh hh (fun a => by rw [sem_hi h hr h2, ev, high])
    have en : M.nd r = ((v : Int), lo, hi) := Prod.ext (by simp; omega) (Prod.ext el eh)
    rw [← en, find_eq h h2 hr]

/-! ### building a function -/

/-- A function of assignments reads only the variables at level d and beyond. -/
def Reads (M : Mgr) (d : Nat) (F : (Nat → Bool) → Bool) : Prop := ∀ a b : Nat → Bool, (∀ v, v < M.n → d ≤ M.lev v → a v = b v) → F a = F b

def build : Nat → Mgr → ((Nat → Bool) → Bool) → Mgr × Nat
  | 0, M, F => (M, if F (fun _ => false) then 1 else 0)
  | k + 1, M, F =>
    let v := M.ord (M.n - (k + 1))
    let A := build k M (fun a => F (upd a v false))
    let B := build k A.1 (fun a => F (upd a v true))
    B.1.put v A.2 B.2

structure BuildSpec (M : Mgr) (d : Nat) (F : (Nat → Bool) → Bool) (M' : Mgr) (r : Nat) : Prop where
  wf : M'.WF
  ext : Ext M M'
  st : M'.stored r
  sem : ∀ a, M'.sem r a = F a
  dep : d ≤ M'.depth r

theorem Reads.upd {M : Mgr} (h : M.WF) {k : Nat} (hk : k < M.n) {F : (Nat → Bool) → Bool} (hF : M.Reads (M.n - (k + 1)) F) (b : Bool) :
    M.Reads (M.n - k) (fun a => F (Mgr.upd a (M.ord (M.n - (k + 1))) b)) := by
  intro x y hxy
  refine hF _ _ (fun v hv hd => ?_)
  by_cases e : v = M.ord (M.n - (k + 1))
  · subst e; simp
  · rw [upd_other _ _ _ _ e, upd_other _ _ _ _ e]
    refine hxy v hv ?_
    have : M.lev v ≠ M.n - (k + 1) := fun x => e (by rw [← x, (h.ol v hv).2])
    omega

theorem Reads.ext {M M' : Mgr} (e : Ext M M') {d : Nat} {F : (Nat → Bool) → Bool} (h : M.Reads d F) : M'.Reads d F :=
  fun a b hab => h a b (fun v hv hd => hab v (by rw [e.n]; exact hv) (by rw [e.lev]; exact hd))

theorem build_spec : ∀ (k : Nat) (M : Mgr), M.WF → k ≤ M.n → ∀ F, M.Reads (M.n - k) F → BuildSpec M (M.n - k) F (build k M F).1 (build k M F).2
  | 0, M, h, _, F, hF => by
    have hc : ∀ a, F a = F (fun _ => false) := fun a => hF _ _ (fun v hv hd => by have := (h.ol v hv).1; omega)
    refine ⟨h, .refl M, .inl ?_, fun a => ?_, ?_⟩
    · simp only [build]; split <;> omega
    · simp only [build]; rw [hc a]; split <;> simp_all
    · simp only [build, depth]; split <;> simp
  | k + 1, M, h, hk, F, hF => by
    have hlv := h.lo_ (M.n - (k + 1)) (by omega)
    have s1 := build_spec k M h (by omega) _ (Reads.upd h (by omega) hF false)
    have hF2 : M.Reads (M.n - k) (fun a => F (upd a (M.ord (M.n - (k + 1))) true)) := Reads.upd h (by omega) hF true
    have s2 := build_spec k (build k M (fun a => F (upd a (M.ord (M.n - (k + 1))) false))).1 s1.wf (by rw [s1.ext.n]; omega) (fun a => F (upd a (M.ord (M.n - (k + 1))) true)) (by rw [s1.ext.n]; exact Reads.ext s1.ext hF2)
    show BuildSpec M (M.n - (k + 1)) F (Mgr.put _ _ _ _).1 (Mgr.put _ _ _ _).2
    generalize hA : build k M (fun a => F (upd a (M.ord (M.n - (k + 1))) false)) = A at *
    generalize hB : build k A.1 (fun a => F (upd a (M.ord (M.n - (k + 1))) true)) = B at *
    have hn2 : B.1.n = M.n := by rw [s2.ext.n, s1.ext.n]
    have hlev2 : ∀ v, B.1.lev v = M.lev v := fun v => by rw [s2.ext.lev, s1.ext.lev]
    have d1 : B.1.depth A.2 = A.1.depth A.2 := s2.ext.depth s1.st
    have q1 := s1.dep
    have q2 := s2.dep
    rw [s1.ext.n] at q2
    have m := put_spec s2.wf (v := M.ord (M.n - (k + 1))) (lo := A.2) (hi := B.2) (by rw [hn2]; exact hlv.1) (s2.ext.stored s1.st) s2.st (by rw [hlev2, hlv.2, d1]; omega) (by rw [hlev2, hlv.2]; omega)
    refine ⟨m.wf, s1.ext.trans (s2.ext.trans m.ext), m.st, fun a => ?_, ?_⟩
    · rw [m.sem, s2.sem, s2.ext.sem s1.wf s1.st, s1.sem]
      have hu : ∀ b, a (M.ord (M.n - (k + 1))) = b → F (upd a (M.ord (M.n - (k + 1))) b) = F a := by
        intro b hb
        congr 1
        funext u
        by_cases e : u = M.ord (M.n - (k + 1))
        · subst e; simp [hb]
        · rw [upd_other _ _ _ _ e]
      cases hb : a (M.ord (M.n - (k + 1)))
      · simpa using hu false hb
      · simpa using hu true hb
    · have := m.dep
      rw [hlev2, hlv.2] at this
      exact this

/-- What is there already is not made anew. -/
theorem build_there : ∀ (k : Nat) (M : Mgr), M.WF → k ≤ M.n → ∀ F, M.Reads (M.n - k) F → ∀ r, M.stored r → (∀ a, M.sem r a = F a) → build k M F = (M, r)
  | 0, M, h, hk, F, hF, r, hr, e => by
    have s := build_spec 0 M h (by omega) F hF
    have e1 : (build 0 M F).1 = M := rfl
    have : (build 0 M F).2 = r := canon (M := M) h s.st hr (fun a => by have := s.sem a; rw [e1] at this; rw [this, e])
    rw [← this]; rfl
  | k + 1, M, h, hk, F, hF, r, hr, e => by
    have hlv := h.lo_ (M.n - (k + 1)) (by omega)
    have hF1 := Reads.upd h (show k < M.n by omega) hF false
    have hF2 := Reads.upd h (show k < M.n by omega) hF true
    -- the cofactors are there
    have cof : ∀ b, ∃ c, M.stored c ∧ ∀ a, M.sem c a = F (upd a (M.ord (M.n - (k + 1))) b) := by
      intro b
      by_cases h2 : r < 2
      · exact ⟨r, hr, fun a => by rw [← e, sem_const _ _ _ h2, sem_const _ _ _ h2]⟩
      · obtain ⟨v0, v1, sl, sh, ne, rl, rh⟩ := node_of h hr (by omega)
        have hd : M.depth r = M.lev (M.nd r).1.toNat := by unfold depth; rw [if_neg (by omega)]
        rcases Nat.lt_trichotomy (M.depth r) (M.n - (k + 1)) with hlt | heq | hgt
        · exfalso
          refine ne (canon h sl sh (fun a => ?_))
          rw [sem_lo h hr (by omega), sem_hi h hr (by omega), e, e]
          refine hF _ _ (fun v hv hdv => ?_)
          have : v ≠ (M.nd r).1.toNat := fun x => by subst x; omega
          rw [upd_other _ _ _ _ this, upd_other _ _ _ _ this]
        · have ev : (M.nd r).1.toNat = M.ord (M.n - (k + 1)) := by rw [← heq, hd, (h.ol _ (by omega)).2]
          cases b
          · exact ⟨_, sl, fun a => by rw [sem_lo h hr (by omega), e, ev]⟩
          · exact ⟨_, sh, fun a => by rw [sem_hi h hr (by omega), e, ev]⟩
        · exact ⟨r, hr, fun a => by rw [← e, sem_upd h hr _ _ _ (by rw [hlv.2]; exact hgt)]⟩
    obtain ⟨c0, s0, e0⟩ := cof false
    obtain ⟨c1, s1, e1⟩ := cof true
    have b0 := build_there k M h (by omega) _ hF1 c0 s0 e0
    have b1 := build_there k M h (by omega) _ hF2 c1 s1 e1
    have p0 := build_spec k M h (by omega) _ hF1
    have p1 := build_spec k M h (by omega) _ hF2
    rw [b0] at p0
    rw [b1] at p1
    have q0 := p0.dep
    have q1 := p1.dep
    simp only at q0 q1
    unfold build
    simp only [b0, b1]
    refine put_there h hlv.1 s0 s1 (by omega) (by omega) hr (fun a => ?_)
    have hu : ∀ b, a (M.ord (M.n - (k + 1))) = b → F (upd a (M.ord (M.n - (k + 1))) b) = F a := by
      intro b hb
      congr 1
      funext u
      by_cases e : u = M.ord (M.n - (k + 1))
      · subst e; simp [hb]
      · rw [upd_other _ _ _ _ e]
    rw [e, e0, e1]
    cases hb : a (M.ord (M.n - (k + 1)))
    · simpa using (hu false hb).symm
    · simpa using (hu true hb).symm

/-- A level of which F does not read is passed over. -/
theorem build_skip {k : Nat} {M : Mgr} (h : M.WF) (hk : k + 1 ≤ M.n) {F : (Nat → Bool) → Bool} (hF : M.Reads (M.n - k) F) : build (k + 1) M F = build k M F := by
  have hlv := h.lo_ (M.n - (k + 1)) (by omega)
  have hF' : M.Reads (M.n - (k + 1)) F := fun a b hab => hF a b (fun v hv hd => hab v hv (by omega))
  have hsame : ∀ b a, F (upd a (M.ord (M.n - (k + 1))) b) = F a := by
    intro b a
    refine hF _ _ (fun v hv hd => upd_other _ _ _ _ (fun e => ?_))
    subst e
    rw [hlv.2] at hd
    omega
  have s1 := build_spec k M h (by omega) F hF
  have e0 : (fun a => F (upd a (M.ord (M.n - (k + 1))) false)) = F := funext (hsame false)
  have e1 : (fun a => F (upd a (M.ord (M.n - (k + 1))) true)) = F := funext (hsame true)
  have b1 := build_there k (build k M F).1 s1.wf (by rw [s1.ext.n]; omega) F (by rw [s1.ext.n]; exact Reads.ext s1.ext hF) (build k M F).2 s1.st s1.sem
  conv => lhs; unfold build
  simp only [e0, e1, b1]
  unfold put
  simp

theorem build_skips {k : Nat} {M : Mgr} (h : M.WF) : ∀ (j : Nat), k + j ≤ M.n → ∀ {F : (Nat → Bool) → Bool}, M.Reads (M.n - k) F → build (k + j) M F = build k M F
  | 0, _, _, _ => rfl
  | j + 1, hk, F, hF => by
    show build (k + j + 1) M F = _
    rw [build_skip h (by omega) (F := F) (fun a b hab => hF a b (fun v hv hd => hab v hv (by omega)))]
    exact build_skips h j (by omega) hF

end Mgr
end Go.Proofs.YtdgnbbmgcgfibaaGreatDoor

namespace Go.Proofs.YtdgnbbmgcgfibaaGreatDoor

/-- The visits of 'walk': what has been seen, what has been visited (each node behind its children). -/
def Mgr.walkS (M : Mgr) : Nat → List Nat × List Nat → Nat → List Nat × List Nat
  | 0, s, _ => s
  | k + 1, s, f =>
    if f < 2 ∨ f ∈ s.1 then s else
    let s1 := walkS M k (f :: s.1, s.2) (M.nd f).2.1
    let s2 := walkS M k s1 (M.nd f).2.2
    (s2.1, s2.2 ++ [f])

theorem Mgr.walkS_len (M : Mgr) : ∀ (k : Nat) (s : List Nat × List Nat) (f : Nat), s.2.length ≤ (M.walkS k s f).2.length
  | 0, _, _ => Nat.le_refl _
  | k + 1, s, f => by
    unfold Mgr.walkS
    split
    · exact Nat.le_refl _
    · have h1 := Mgr.walkS_len M k (f :: s.1, s.2) (M.nd f).2.1
      have h2 := Mgr.walkS_len M k (M.walkS k (f :: s.1, s.2) (M.nd f).2.1) (M.nd f).2.2
      simp only [List.length_append, List.length_singleton]
      simp only at h1
      omega

namespace Mgr

/-- g is no constant and is reached from f. -/
def Reach (M : Mgr) : Nat → Nat → Nat → Prop
  | 0, _, _ => False
  | k + 1, f, g => 2 ≤ f ∧ (g = f ∨ Reach M k (M.nd f).2.1 g ∨ Reach M k (M.nd f).2.2 g)

/-- What has been seen from level d on is closed under children. -/
def Closed (M : Mgr) (d : Nat) (S : List Nat) : Prop := ∀ s, s ∈ S → d ≤ M.depth s → 2 ≤ s → (2 ≤ (M.nd s).2.1 → (M.nd s).2.1 ∈ S) ∧ (2 ≤ (M.nd s).2.2 → (M.nd s).2.2 ∈ S)

structure WalkSpec (M : Mgr) (k f : Nat) (s s' : List Nat × List Nat) (N : List Nat) : Prop where
  vis : s'.2 = s.2 ++ N
  nodup : N.Nodup
  fresh : ∀ g, g ∈ N → g ∉ s.1
  reach : ∀ g, g ∈ N → M.Reach k f g
  seen : ∀ g, g ∈ s'.1 ↔ g ∈ s.1 ∨ g ∈ N
  closed : ∀ d, d ≤ M.depth f → M.Closed (M.depth f) s.1 → M.Closed d s.1 → M.Closed d s'.1
  self : 2 ≤ f → f ∈ s'.1
  deep : ∀ g, g ∈ N → M.stored g ∧ 2 ≤ g ∧ M.depth f ≤ M.depth g

theorem walk_spec {M : Mgr} (h : M.WF) : ∀ (k f : Nat) (s : List Nat × List Nat), M.stored f → M.n - M.depth f < k → ∃ N, WalkSpec M k f s (M.walkS k s f) N
  | 0, f, s, _, hk => by omega
  | k + 1, f, s, hf, hk => by
    by_cases h2 : f < 2
    · refine ⟨[], ?_⟩
      have e : M.walkS (k + 1) s f = s := by unfold walkS; rw [if_pos (.inl h2)]
      rw [e]
      exact ⟨by simp, List.nodup_nil, by simp, by simp, by simp, fun d _ _ hc => hc, fun x => by omega, by simp⟩
    · by_cases hs : f ∈ s.1
      · refine ⟨[], ?_⟩
        have e : M.walkS (k + 1) s f = s := by unfold walkS; rw [if_pos (.inr hs)]
        rw [e]
        exact ⟨by simp, List.nodup_nil, by simp, by simp, by simp, fun d _ _ hc => hc, fun _ => hs, by simp⟩
      · obtain ⟨_, _, sl, sh, _, dl, dh⟩ := node_of h hf (by omega)
        have q1 := depth_le h sl
        have q2 := depth_le h sh
        obtain ⟨N1, w1⟩ := walk_spec h k (M.nd f).2.1 (f :: s.1, s.2) sl (by omega)
        obtain ⟨N2, w2⟩ := walk_spec h k (M.nd f).2.2 (M.walkS k (f :: s.1, s.2) (M.nd f).2.1) sh (by omega)
        have e : M.walkS (k + 1) s f = ((M.walkS k (M.walkS k (f :: s.1, s.2) (M.nd f).2.1) (M.nd f).2.2).1, (M.walkS k (M.walkS k (f :: s.1, s.2) (M.nd f).2.1) (M.nd f).2.2).2 ++ [f]) := by
          conv => lhs; unfold walkS
          rw [if_neg (by simp; exact ⟨by omega, hs⟩)]
        rw [e]
        generalize M.walkS k (f :: s.1, s.2) (M.nd f).2.1 = t1 at *
        generalize M.walkS k t1 (M.nd f).2.2 = t2 at *
        have fN1 : f ∉ N1 := fun x => w1.fresh f x (by simp)
        have fN2 : f ∉ N2 := fun x => w2.fresh f x ((w1.seen f).2 (.inl (by simp)))
        refine ⟨N1 ++ N2 ++ [f], ?_, ?_, ?_, ?_, ?_, ?_, ?_, ?_⟩
        · simp [w2.vis, w1.vis]
        · rw [List.nodup_append]
          refine ⟨?_, by simp, ?_⟩
          · rw [List.nodup_append]
            refine ⟨w1.nodup, w2.nodup, fun a ha b hb e => ?_⟩
            subst e
            exact w2.fresh a hb ((w1.seen a).2 (.inr ha))
          · intro a ha b hb e
            simp at hb
            subst e; subst hb
            rcases List.mem_append.1 ha with x | x
            · exact fN1 x
            · exact fN2 x
        · intro g hg
          simp at hg
          rcases hg with x | x | x
          · exact fun y => w1.fresh g x (by simp [y])
          · exact fun y => w2.fresh g x ((w1.seen g).2 (.inl (by simp [y])))
          · subst x; exact hs
        · intro g hg
          simp at hg
          refine ⟨by omega, ?_⟩
          rcases hg with x | x | x
          · exact .inr (.inl (w1.reach g x))
          · exact .inr (.inr (w2.reach g x))
          · exact .inl x
        · intro g
          simp only [w2.seen, w1.seen, List.mem_cons, List.mem_append, List.not_mem_nil, or_false]
          constructor
          · rintro (((x | x) | x) | x)
            · exact .inr (.inr x)
            · exact .inl x
            · exact .inr (.inl (.inl x))
            · exact .inr (.inl (.inr x))
          · rintro (x | (x | x) | x)
            · exact .inl (.inl (.inr x))
            · exact .inl (.inr x)
            · exact .inr x
            · exact .inl (.inl (.inl x))
        · intro d hd hc0 hcd
          -- the closure behind the two walks
          have c1 : M.Closed (M.depth (M.nd f).2.1) (f :: s.1) := fun g hg hgd hg2 => by
            simp at hg
            rcases hg with x | x
            · subst x; omega
            · have := hc0 g x (by omega) hg2
              exact ⟨fun y => by simp [this.1 y], fun y => by simp [this.2 y]⟩
          have base : ∀ d', M.depth f < d' → M.Closed (M.depth f) s.1 → M.Closed d' (f :: s.1) := fun d' hd' hc g hg hgd hg2 => by
            simp at hg
            rcases hg with x | x
            · subst x; omega
            · have := hc g x (by omega) hg2
              exact ⟨fun y => by simp [this.1 y], fun y => by simp [this.2 y]⟩
          have k1 : M.Closed (M.depth (M.nd f).2.1) t1.1 := w1.closed _ (Nat.le_refl _) c1 c1
          -- at level depth f + 1 all is closed behind both walks
          have a1 : M.Closed (M.depth f + 1) t1.1 := w1.closed _ (by omega) c1 (base _ (by omega) hc0)
          have a2 : M.Closed (M.depth f + 1) t2.1 := w2.closed _ (by omega) (fun g hg hgd hg2 => a1 g hg (by omega) hg2) a1
          have lo_in : 2 ≤ (M.nd f).2.1 → (M.nd f).2.1 ∈ t2.1 := fun x => (w2.seen _).2 (.inl (w1.self x))
          have hi_in : 2 ≤ (M.nd f).2.2 → (M.nd f).2.2 ∈ t2.1 := fun x => w2.self x
          intro g hg hgd hg2
          by_cases gf : g = f
          · subst gf; exact ⟨lo_in, hi_in⟩
          · rcases Nat.lt_or_ge (M.depth f) (M.depth g) with hlt | hge
            · exact a2 g hg (by omega) hg2
            · -- an elder one: it was in s
              have hgs : g ∈ s.1 := by
                rcases (w2.seen g).1 hg with x | x
                · rcases (w1.seen g).1 x with y | y
                  · simp at y
                    exact y.resolve_left gf
                  · have := (w1.deep g y).2.2; omega
                · have := (w2.deep g x).2.2; omega
              have := hcd g hgs hgd hg2
              refine ⟨fun y => ?_, fun y => ?_⟩
              · exact (w2.seen _).2 (.inl ((w1.seen _).2 (.inl (by simp [this.1 y]))))
              · exact (w2.seen _).2 (.inl ((w1.seen _).2 (.inl (by simp [this.2 y]))))
        · intro _
          exact (w2.seen f).2 (.inl ((w1.seen f).2 (.inl (by simp))))
        · intro g hg
          simp at hg
          rcases hg with x | x | x
          · have := w1.deep g x; exact ⟨this.1, this.2.1, by omega⟩
          · have := w2.deep g x; exact ⟨this.1, this.2.1, by omega⟩
          · subst x; exact ⟨hf, by omega, Nat.le_refl _⟩

/-- What is closed and has f has all that is reached from f. -/
theorem closed_reach {M : Mgr} (h : M.WF) {S : List Nat} : ∀ (k f g : Nat), M.stored f → M.Closed (M.depth f) S → (2 ≤ f → f ∈ S) → M.Reach k f g → g ∈ S
  | 0, _, _, _, _, _, hr => hr.elim
  | k + 1, f, g, hf, hc, hin, hr => by
    obtain ⟨h2, hr⟩ := hr
    obtain ⟨_, _, sl, sh, _, dl, dh⟩ := node_of h hf h2
    have := hc f (hin h2) (Nat.le_refl _) h2
    rcases hr with x | x | x
    · subst x; exact hin h2
    · exact closed_reach h k _ g sl (fun s hs hd h2 => hc s hs (by omega) h2) this.1 x
    · exact closed_reach h k _ g sh (fun s hs hd h2 => hc s hs (by omega) h2) this.2 x

theorem nodup_length : ∀ (l m : List Nat), l.Nodup → (∀ x, x ∈ l → x ∈ m) → l.length ≤ m.length
  | [], _, _, _ => by simp
  | a :: l, m, hl, hs => by
    rw [List.nodup_cons] at hl
    have ha := hs a (by simp)
    have := nodup_length l (m.erase a) hl.2 (fun x hx => (List.mem_erase_of_ne (fun e => hl.1 (by rw [← e]; exact hx))).2 (hs x (by simp [hx])))
    rw [List.length_erase_of_mem ha] at this
    have := List.length_pos_of_mem ha
    simp only [List.length_cons]
    omega

/-- The nodes of f, each behind its children. -/
def nodesOf (M : Mgr) (f : Nat) : List Nat := (M.walkS (M.n + 1) ([], []) f).2
def size (M : Mgr) (f : Nat) : Nat := (M.nodesOf f).length

theorem nodesOf_spec {M : Mgr} (h : M.WF) {f : Nat} (hf : M.stored f) : (M.nodesOf f).Nodup ∧ (∀ g, g ∈ M.nodesOf f ↔ M.Reach (M.n + 1) f g) ∧ ∀ g, g ∈ M.nodesOf f → M.stored g ∧ 2 ≤ g := by
  obtain ⟨N, w⟩ := walk_spec h (M.n + 1) f ([], []) hf (by omega)
  have e : M.nodesOf f = N := by unfold nodesOf; rw [w.vis]; simp
  rw [e]
  refine ⟨w.nodup, fun g => ⟨w.reach g, fun hr => ?_⟩, fun g hg => ⟨(w.deep g hg).1, (w.deep g hg).2.1⟩⟩
  have c0 : M.Closed (M.depth f) ([] : List Nat) := fun s hs => by simp at hs
  have hc := w.closed (M.depth f) (Nat.le_refl _) c0 c0
  have := closed_reach h (M.n + 1) f g hf hc w.self hr
  simpa using (w.seen g).1 this

theorem size_le {M : Mgr} (h : M.WF) {f : Nat} (hf : M.stored f) : M.size f ≤ M.nodes.length := by
  obtain ⟨nd, _, hs⟩ := nodesOf_spec h hf
  have hsub : ∀ g, g ∈ M.nodesOf f → g ∈ List.range M.nodes.length := fun g hg => by
    obtain ⟨s, h2⟩ := hs g hg
    rcases s with s | s
    · omega
    · simpa using s.1
  have := nodup_length _ _ nd hsub
  simpa [size] using this

/-- A list without repetition that has just what is reached has the size's length. -/
theorem size_eq {M : Mgr} (h : M.WF) {f : Nat} (hf : M.stored f) {l : List Nat} (hl : l.Nodup) (he : ∀ g, g ∈ l ↔ M.Reach (M.n + 1) f g) : M.size f = l.length := by
  obtain ⟨nd, hm, _⟩ := nodesOf_spec h hf
  have h1 := nodup_length _ _ nd (fun g hg => (he g).2 ((hm g).1 hg))
  have h2 := nodup_length _ _ hl (fun g hg => (hm g).2 ((he g).1 hg))
  unfold size; omega

end Mgr
end Go.Proofs.YtdgnbbmgcgfibaaGreatDoor

namespace Go.Proofs.YtdgnbbmgcgfibaaGreatDoor
namespace Mgr

/-- Levels above d as in a, the others as in b. -/
def mix (M : Mgr) (d : Nat) (a b : Nat → Bool) : Nat → Bool := fun v => if M.lev v < d then a v else b v

theorem Reach.mono {M : Mgr} : ∀ {k k' f g : Nat}, k ≤ k' → M.Reach k f g → M.Reach k' f g
  | 0, _, _, _, _, h => h.elim
  | k + 1, 0, _, _, hk, _ => by omega
  | k + 1, k' + 1, f, g, hk, h => by
    obtain ⟨h2, h⟩ := h
    refine ⟨h2, ?_⟩
    rcases h with h | h | h
    · exact .inl h
    · exact .inr (.inl (h.mono (by omega)))
    · exact .inr (.inr (h.mono (by omega)))

theorem Reach.fuel {M : Mgr} (h : M.WF) : ∀ {k f g : Nat}, M.stored f → M.Reach k f g → ∀ k', M.n - M.depth f < k' → M.Reach k' f g
  | 0, _, _, _, hr, _, _ => hr.elim
  | k + 1, f, g, hf, hr, 0, hk => by omega
  | k + 1, f, g, hf, hr, k' + 1, hk => by
    obtain ⟨h2, hr⟩ := hr
    obtain ⟨_, _, sl, sh, _, dl, dh⟩ := node_of h hf h2
    have q1 := depth_le h sl
    have q2 := depth_le h sh
    refine ⟨h2, ?_⟩
    rcases hr with hr | hr | hr
    · exact .inl hr
    · exact .inr (.inl (Reach.fuel h sl hr k' (by omega)))
    · exact .inr (.inr (Reach.fuel h sh hr k' (by omega)))

theorem Reach.spec {M : Mgr} (h : M.WF) : ∀ {k f g : Nat}, M.stored f → M.Reach k f g → M.stored g ∧ 2 ≤ g ∧ M.depth f ≤ M.depth g
  | 0, _, _, _, hr => hr.elim
  | k + 1, f, g, hf, hr => by
    obtain ⟨h2, hr⟩ := hr
    obtain ⟨_, _, sl, sh, _, dl, dh⟩ := node_of h hf h2
    rcases hr with hr | hr | hr
    · subst hr; exact ⟨hf, h2, Nat.le_refl _⟩
    · have := Reach.spec h sl hr; exact ⟨this.1, this.2.1, by omega⟩
    · have := Reach.spec h sh hr; exact ⟨this.1, this.2.1, by omega⟩

/-- A reached node is a cofactor: at its own level. -/
theorem Reach.cof {M : Mgr} (h : M.WF) : ∀ {k f g : Nat}, M.stored f → M.Reach k f g → ∃ a, ∀ b, M.sem g b = M.sem f (M.mix (M.depth g) a b)
  | 0, _, _, _, hr => hr.elim
  | k + 1, f, g, hf, hr => by
    obtain ⟨h2, hr⟩ := hr
    obtain ⟨v0, v1, sl, sh, _, dl, dh⟩ := node_of h hf h2
    have hd : M.depth f = M.lev (M.nd f).1.toNat := by unfold depth; rw [if_neg (by omega)]
    rcases hr with hr | hr | hr
    · subst hr
      refine ⟨fun _ => false, fun b => sem_agree h _ g hf (Nat.le_refl _) _ _ (fun v hv hdv => ?_)⟩
      unfold mix; rw [if_neg (by omega)]
    · obtain ⟨a, ha⟩ := Reach.cof h sl hr
      have hg := Reach.spec h sl hr
      refine ⟨upd a (M.nd f).1.toNat false, fun b => ?_⟩
      rw [ha, sem_lo h hf h2]
      refine sem_agree h _ f hf (Nat.le_refl _) _ _ (fun v hv _ => ?_)
      by_cases e : v = (M.nd f).1.toNat
      · subst e; unfold mix; rw [upd_same, if_pos (by omega), upd_same]
      · rw [upd_other _ _ _ _ e]; unfold mix; rw [upd_other _ _ _ _ e]
    · obtain ⟨a, ha⟩ := Reach.cof h sh hr
      have hg := Reach.spec h sh hr
      refine ⟨upd a (M.nd f).1.toNat true, fun b => ?_⟩
      rw [ha, sem_hi h hf h2]
      refine sem_agree h _ f hf (Nat.le_refl _) _ _ (fun v hv _ => ?_)
      by_cases e : v = (M.nd f).1.toNat
      · subst e; unfold mix; rw [upd_same, if_pos (by omega), upd_same]
      · rw [upd_other _ _ _ _ e]; unfold mix; rw [upd_other _ _ _ _ e]

/-- Each cofactor is a constant or a reached node. -/
theorem cof_ref {M : Mgr} (h : M.WF) (d : Nat) (a : Nat → Bool) : ∀ (k f : Nat), M.stored f → M.n - M.depth f < k → ∃ g, M.stored g ∧ (∀ b, M.sem g b = M.sem f (M.mix d a b)) ∧ (2 ≤ g → M.Reach k f g)
  | 0, _, _, hk => by omega
  | k + 1, f, hf, hk => by
    by_cases h2 : f < 2
    · exact ⟨f, hf, fun b => by rw [sem_const _ _ _ h2, sem_const _ _ _ h2], fun x => by omega⟩
    · obtain ⟨v0, v1, sl, sh, _, dl, dh⟩ := node_of h hf (by omega)
      have hd : M.depth f = M.lev (M.nd f).1.toNat := by unfold depth; rw [if_neg (by omega)]
      have q1 := depth_le h sl
      have q2 := depth_le h sh
      by_cases hlt : M.depth f < d
      · cases hb : a (M.nd f).1.toNat with
        | false =>
          obtain ⟨g, sg, hg, hr⟩ := cof_ref h d a k _ sl (by omega)
          refine ⟨g, sg, fun b => ?_, fun x => ⟨by omega, .inr (.inl (hr x))⟩⟩
          rw [hg, sem_lo h hf (by omega)]
          refine sem_agree h _ f hf (Nat.le_refl _) _ _ (fun v hv _ => ?_)
          by_cases e : v = (M.nd f).1.toNat
          · subst e; rw [upd_same]; unfold mix; rw [if_pos (by omega), hb]
          · rw [upd_other _ _ _ _ e]
        | true =>
          obtain ⟨g, sg, hg, hr⟩ := cof_ref h d a k _ sh (by omega)
          refine ⟨g, sg, fun b => ?_, fun x => ⟨by omega, .inr (.inr (hr x))⟩⟩
          rw [hg, sem_hi h hf (by omega)]
          refine sem_agree h _ f hf (Nat.le_refl _) _ _ (fun v hv _ => ?_)
          by_cases e : v = (M.nd f).1.toNat
          · subst e; rw [upd_same]; unfold mix; rw [if_pos (by omega), hb]
          · rw [upd_other _ _ _ _ e]
      · refine ⟨f, hf, fun b => sem_agree h _ f hf (Nat.le_refl _) _ _ (fun v hv hdv => ?_), fun _ => ⟨by omega, .inl rfl⟩⟩
        unfold mix; rw [if_neg (by omega)]

/-- A function that is no constant. -/
def NonConst (F : (Nat → Bool) → Bool) : Prop := ∃ a b, F a ≠ F b

theorem nonconst_two {M : Mgr} {g : Nat} {F : (Nat → Bool) → Bool} (hs : ∀ b, M.sem g b = F b) (hn : NonConst F) : 2 ≤ g := by
  rcases Nat.lt_or_ge g 2 with h | h
  · obtain ⟨a, b, hab⟩ := hn
    exfalso; apply hab
    rw [← hs, ← hs, sem_const _ _ _ h, sem_const _ _ _ h]
  · exact h

theorem two_nonconst {M : Mgr} (h : M.WF) {g : Nat} (hg : M.stored g) (h2 : 2 ≤ g) : NonConst (M.sem g) := by
  by_cases hn : NonConst (M.sem g)
  · exact hn
  · exfalso
    have hc : ∀ a b, M.sem g a = M.sem g b := fun a b => by
      by_cases e : M.sem g a = M.sem g b
      · exact e
      · exact (hn ⟨a, b, e⟩).elim
    cases hv : M.sem g (fun _ => false) with
    | false =>
      have := canon h hg (.inl (by omega) : M.stored 0) (fun a => by rw [hc a (fun _ => false), hv, sem_zero])
      omega
    | true =>
      have := canon h hg (.inl (by omega) : M.stored 1) (fun a => by rw [hc a (fun _ => false), hv, sem_one])
      omega

/-- The size of a function whose cofactors are listed. -/
theorem size_family {M : Mgr} (h : M.WF) {f : Nat} (hf : M.stored f) (m : Nat) (G : Nat → (Nat → Bool) → Bool)
    (dist : ∀ i j, i < m → j < m → G i = G j → i = j) (non : ∀ i, i < m → NonConst (G i)) (isc : ∀ i, i < m → ∃ d a, ∀ b, G i b = M.sem f (M.mix d a b))
    (all : ∀ d a, NonConst (fun b => M.sem f (M.mix d a b)) → ∃ i, i < m ∧ G i = fun b => M.sem f (M.mix d a b)) : M.size f = m := by
  have ex : ∀ i, ∃ g, i < m → M.stored g ∧ (∀ b, M.sem g b = G i b) ∧ M.Reach (M.n + 1) f g := fun i => by
    by_cases hi : i < m
    · obtain ⟨d, a, hda⟩ := isc i hi
      obtain ⟨g, sg, hg, hr⟩ := cof_ref h d a (M.n + 1) f hf (by omega)
      have hs : ∀ b, M.sem g b = G i b := fun b => by rw [hg, hda]
      exact ⟨g, fun _ => ⟨sg, hs, hr (nonconst_two hs (non i hi))⟩⟩
    · exact ⟨0, fun x => (hi x).elim⟩
  obtain ⟨r, hr⟩ := Classical.axiomOfChoice ex
  have hl : M.size f = ((List.range m).map r).length := by
    refine size_eq h hf ?_ (fun g => ?_)
    · rw [List.nodup_iff_pairwise_ne, List.pairwise_map]
      have hnd : (List.range m).Nodup := List.nodup_range
      rw [List.nodup_iff_pairwise_ne] at hnd
      refine hnd.imp_of_mem (fun {i j} hi hj hne e => hne ?_)
      simp at hi hj
      exact dist i j hi hj (funext fun b => by rw [← (hr i hi).2.1, ← (hr j hj).2.1, e])
    · simp only [List.mem_map, List.mem_range]
      constructor
      · rintro ⟨i, hi, rfl⟩; exact (hr i hi).2.2
      · intro hg
        obtain ⟨a, ha⟩ := Reach.cof h hf hg
        obtain ⟨sg, g2, _⟩ := Reach.spec h hf hg
        have hn : NonConst (fun b => M.sem f (M.mix (M.depth g) a b)) := by
          have := two_nonconst h sg g2
          obtain ⟨x, y, hxy⟩ := this
          exact ⟨x, y, by show M.sem f _ ≠ M.sem f _; rw [← ha, ← ha]; exact hxy⟩
        obtain ⟨i, hi, hG⟩ := all _ a hn
        refine ⟨i, hi, canon h (hr i hi).1 sg (fun b => ?_)⟩
        rw [(hr i hi).2.1, hG, ha]
  simpa using hl

/-- An upper bound: at each level the cofactors are told apart by a state below s. -/
theorem size_states {M : Mgr} (h : M.WF) {f : Nat} (hf : M.stored f) (s : Nat) (st : Nat → (Nat → Bool) → Nat) (hst : ∀ d a, st d a < s)
    (same : ∀ d a a', st d a = st d a' → ∀ b, M.sem f (M.mix d a b) = M.sem f (M.mix d a' b)) : M.size f ≤ M.n * s := by
  obtain ⟨nd, hm, hs⟩ := nodesOf_spec h hf
  -- each node to a number below n * s
  have ex : ∀ g, ∃ c, g ∈ M.nodesOf f → ∃ a, (∀ b, M.sem g b = M.sem f (M.mix (M.depth g) a b)) ∧ c = M.depth g * s + st (M.depth g) a := fun g => by
    by_cases hg : g ∈ M.nodesOf f
    · obtain ⟨a, ha⟩ := Reach.cof h hf ((hm g).1 hg)
      exact ⟨_, fun _ => ⟨a, ha, rfl⟩⟩
    · exact ⟨0, fun x => (hg x).elim⟩
  obtain ⟨c, hc⟩ := Classical.axiomOfChoice ex
  have hnd : ((M.nodesOf f).map c).Nodup := by
    rw [List.nodup_iff_pairwise_ne, List.pairwise_map]
    rw [List.nodup_iff_pairwise_ne] at nd
    refine nd.imp_of_mem (fun {x y} hx hy hne e => hne ?_)
    obtain ⟨a, ha, ca⟩ := hc x hx
    obtain ⟨b, hb, cb⟩ := hc y hy
    rw [ca, cb] at e
    have h1 := hst (M.depth x) a
    have h2 := hst (M.depth y) b
    have hdd : M.depth x = M.depth y := by
      rcases Nat.lt_trichotomy (M.depth x) (M.depth y) with hlt | heq | hgt
      · have : (M.depth x + 1) * s ≤ M.depth y * s := Nat.mul_le_mul_right _ hlt
        rw [Nat.add_mul] at this; omega
      · exact heq
      · have : (M.depth y + 1) * s ≤ M.depth x * s := Nat.mul_le_mul_right _ hgt
        rw [Nat.add_mul] at this; omega
    rw [hdd] at e ha
    exact canon h (hs x hx).1 (hs y hy).1 (fun z => by rw [ha, hb]; exact same _ _ _ (by omega) z)
  have := nodup_length _ (List.range (M.n * s)) hnd (fun x hx => by
    simp only [List.mem_map] at hx
    obtain ⟨g, hg, rfl⟩ := hx
    obtain ⟨a, _, ca⟩ := hc g hg
    have h1 := hst (M.depth g) a
    have h2 := depth_lt h (hs g hg).1 (hs g hg).2
    have : (M.depth g + 1) * s ≤ M.n * s := Nat.mul_le_mul_right _ h2
    rw [Nat.add_mul] at this
    simp; omega)
  simpa [size] using this

/-! ### how many nodes are made -/

theorem Ext.reach {M M' : Mgr} (h : M.WF) (e : Ext M M') : ∀ {k f g : Nat}, M.stored f → M.Reach k f g → M'.Reach k f g
  | 0, _, _, _, hr => hr.elim
  | k + 1, f, g, hf, hr => by
    obtain ⟨h2, hr⟩ := hr
    obtain ⟨_, _, sl, sh, _, dl, dh⟩ := node_of h hf h2
    refine ⟨h2, ?_⟩
    rw [e.nd f h2 hf]
    rcases hr with hr | hr | hr
    · exact .inl hr
    · exact .inr (.inl (e.reach h sl hr))
    · exact .inr (.inr (e.reach h sh hr))

/-- What 'put' returns, if its children differ. -/
theorem put_nd {M : Mgr} {v lo hi : Nat} (h : M.WF) (ne : lo ≠ hi) : (M.put v lo hi).1.nd (M.put v lo hi).2 = ((v : Int), lo, hi) ∧ 2 ≤ (M.put v lo hi).2 ∧
    (∀ g, M.nodes.length ≤ g → g < (M.put v lo hi).1.nodes.length → g = (M.put v lo hi).2) := by
  unfold put
  rw [if_neg ne]
  cases hf : M.find ((v : Int), lo, hi) with
  | some r =>
    obtain ⟨r2, rl, rn⟩ := find_some hf
    exact ⟨rn, r2, fun g h1 h2 => by simp at h2; omega⟩
  | none =>
    cases hg : M.free.getLast? with
    | some f =>
      obtain ⟨f2, fl, fv⟩ := h.fr f (List.mem_of_getLast? hg)
      exact ⟨by simp [nd, fl], f2, fun g h1 h2 => by simp at h2; omega⟩
    | none => exact ⟨by simp [nd], h.two, fun g h1 h2 => by simp at h2 ⊢; omega⟩

/-- What is made is reached from the result. -/
theorem build_new : ∀ (k : Nat) (M : Mgr), M.WF → k ≤ M.n → ∀ F, M.Reads (M.n - k) F → ∀ g, M.nodes.length ≤ g → g < (build k M F).1.nodes.length → (build k M F).1.Reach (k + 1) (build k M F).2 g
  | 0, M, h, _, F, hF => fun g h1 h2 => by simp [build] at h2; omega
  | k + 1, M, h, hk, F, hF => by
    have hlv := h.lo_ (M.n - (k + 1)) (by omega)
    have r1 := Reads.upd h (by omega) hF false
    have s1 := build_spec k M h (by omega) _ r1
    have i1 := build_new k M h (by omega) _ r1
    have hF2 : M.Reads (M.n - k) (fun a => F (upd a (M.ord (M.n - (k + 1))) true)) := Reads.upd h (by omega) hF true
    have r2 : (build k M (fun a => F (upd a (M.ord (M.n - (k + 1))) false))).1.Reads ((build k M (fun a => F (upd a (M.ord (M.n - (k + 1))) false))).1.n - k) (fun a => F (upd a (M.ord (M.n - (k + 1))) true)) := by rw [s1.ext.n]; exact Reads.ext s1.ext hF2
    have s2 := build_spec k (build k M (fun a => F (upd a (M.ord (M.n - (k + 1))) false))).1 s1.wf (by rw [s1.ext.n]; omega) (fun a => F (upd a (M.ord (M.n - (k + 1))) true)) r2
    have i2 := build_new k (build k M (fun a => F (upd a (M.ord (M.n - (k + 1))) false))).1 s1.wf (by rw [s1.ext.n]; omega) (fun a => F (upd a (M.ord (M.n - (k + 1))) true)) r2
    show ∀ g, M.nodes.length ≤ g → g < (Mgr.put _ _ _ _).1.nodes.length → (Mgr.put _ _ _ _).1.Reach (k + 1 + 1) (Mgr.put _ _ _ _).2 g
    generalize hA : build k M (fun a => F (upd a (M.ord (M.n - (k + 1))) false)) = A at *
    generalize hB : build k A.1 (fun a => F (upd a (M.ord (M.n - (k + 1))) true)) = B at *
    have hn2 : B.1.n = M.n := by rw [s2.ext.n, s1.ext.n]
    have hlev2 : ∀ v, B.1.lev v = M.lev v := fun v => by rw [s2.ext.lev, s1.ext.lev]
    have d1 : B.1.depth A.2 = A.1.depth A.2 := s2.ext.depth s1.st
    have q1 := s1.dep
    have q2 := s2.dep
    rw [s1.ext.n] at q2
    have m := put_spec s2.wf (v := M.ord (M.n - (k + 1))) (lo := A.2) (hi := B.2) (by rw [hn2]; exact hlv.1) (s2.ext.stored s1.st) s2.st (by rw [hlev2, hlv.2, d1]; omega) (by rw [hlev2, hlv.2]; omega)
    intro g h1 h2
    have sA : B.1.stored A.2 := s2.ext.stored s1.st
    -- where g was made
    have old : g < B.1.nodes.length → B.1.Reach (k + 1) A.2 g ∨ B.1.Reach (k + 1) B.2 g := fun hg => by
      rcases Nat.lt_or_ge g A.1.nodes.length with hlt | hge
      · exact .inl (s2.ext.reach s1.wf s1.st (i1 g h1 hlt))
      · exact .inr (i2 g hge hg)
    by_cases e : A.2 = B.2
    · have hp : B.1.put (M.ord (M.n - (k + 1))) A.2 B.2 = (B.1, A.2) := by unfold put; rw [if_pos e]
      rw [hp] at h2 ⊢
      rcases old h2 with x | x
      · exact x.mono (by omega)
      · rw [e]; exact x.mono (by omega)
    · obtain ⟨pn, p2, pg⟩ := put_nd (v := M.ord (M.n - (k + 1))) s2.wf e
      refine ⟨p2, ?_⟩
      rw [pn]
      rcases Nat.lt_or_ge g B.1.nodes.length with hlt | hge
      · rcases old hlt with x | x
        · exact .inr (.inl (m.ext.reach s2.wf sA x))
        · exact .inr (.inr (m.ext.reach s2.wf s2.st x))
      · exact .inl (pg g hge h2)

/-- Building makes at most as many nodes as the result has. -/
theorem build_len {k : Nat} {M : Mgr} (h : M.WF) (hk : k ≤ M.n) {F : (Nat → Bool) → Bool} (hF : M.Reads (M.n - k) F) : (build k M F).1.nodes.length ≤ M.nodes.length + (build k M F).1.size (build k M F).2 := by
  have s := build_spec k M h hk F hF
  have hn := build_new k M h hk F hF
  obtain ⟨nd, hm, _⟩ := nodesOf_spec s.wf s.st
  generalize build k M F = B at *
  have hsub : ∀ x, x ∈ (List.range (B.1.nodes.length - M.nodes.length)).map (fun i => M.nodes.length + i) → x ∈ B.1.nodesOf B.2 := fun x hx => by
    simp only [List.mem_map, List.mem_range] at hx
    obtain ⟨i, hi, rfl⟩ := hx
    exact (hm _).2 (Reach.fuel s.wf s.st (hn _ (by omega) (by omega)) _ (by omega))
  have hnd : ((List.range (B.1.nodes.length - M.nodes.length)).map (fun i => M.nodes.length + i)).Nodup := by
    rw [List.nodup_iff_pairwise_ne, List.pairwise_map]
    have hr : (List.range (B.1.nodes.length - M.nodes.length)).Nodup := List.nodup_range
    rw [List.nodup_iff_pairwise_ne] at hr
    exact hr.imp (fun {i j} hne e => hne (by omega))
  have := nodup_length _ _ hnd hsub
  simp only [List.length_map, List.length_range] at this
  unfold size
  omega

end Mgr
end Go.Proofs.YtdgnbbmgcgfibaaGreatDoor

namespace Go.Proofs.YtdgnbbmgcgfibaaGreatDoor

/-- One variable alone. -/
def sg (x : Nat) : Nat → Bool := fun v => decide (v = x)
namespace Mgr

/-- The order is 0, 1, 2 .. -/
def Plain (M : Mgr) : Prop := ∀ v, v < M.n → M.lev v = v

/-- At each level the cofactors of F are told apart by a state below s. -/
def States (M : Mgr) (F : (Nat → Bool) → Bool) (s : Nat) : Prop := ∃ st : Nat → (Nat → Bool) → Nat, (∀ d a, st d a < s) ∧ ∀ d a a', st d a = st d a' → ∀ b, F (M.mix d a b) = F (M.mix d a' b)

section
variable {M : Mgr} (h : M.WF) (hp : M.Plain) {f : Nat} (hf : M.stored f)
include h hp hf

end

end Mgr
end Go.Proofs.YtdgnbbmgcgfibaaGreatDoor

namespace Go.Proofs.YtdgnbbmgcgfibaaGreatDoor
open Go.RowKit

/-! ### frames -/
/-- All blocks of w but those of A are in w' as they were. -/
structure Kp (A : Nat → Prop) (w w' : World) : Prop where
  os : w'.os = w.os
  tape : w'.tape = w.tape
  output : w'.output = w.output
  size : w.heap.size ≤ w'.heap.size
  block : ∀ k, k < w.heap.size → ¬ A k → w'.heap[k]? = w.heap[k]?

def No : Nat → Prop := fun _ => False
/-- What A' has is A's or new. -/
def Fresh (A A' : Nat → Prop) (w : World) : Prop := ∀ k, A' k → A k ∨ w.heap.size ≤ k

theorem Kp.refl (A : Nat → Prop) (w : World) : Kp A w w := ⟨rfl, rfl, rfl, Nat.le_refl _, fun _ _ _ => rfl⟩
theorem Kp.trans {A A' : Nat → Prop} {w w1 w2 : World} (h : Kp A w w1) (f : Fresh A A' w) (h' : Kp A' w1 w2) : Kp A w w2 :=
  ⟨h'.os.trans h.os, h'.tape.trans h.tape, h'.output.trans h.output, Nat.le_trans h.size h'.size, fun k hk hA =>
    (h'.block k (Nat.lt_of_lt_of_le hk h.size) (fun hA' => by rcases f k hA' with h1 | h1 <;> first | exact hA h1 | omega)).trans (h.block k hk hA)⟩
theorem Kp.mono {A A' : Nat → Prop} {w w' : World} (h : Kp A w w') (hA : ∀ k, k < w.heap.size → A k → A' k) : Kp A' w w' :=
  ⟨h.os, h.tape, h.output, h.size, fun k hk hn => h.block k hk (fun x => hn (hA k hk x))⟩
theorem Kp.of_no {A : Nat → Prop} {w w' : World} (h : Kp No w w') : Kp A w w' := h.mono (fun _ _ x => x.elim)
theorem Kp.trans_no {A : Nat → Prop} {w w1 w2 : World} (h : Kp A w w1) (h' : Kp No w1 w2) : Kp A w w2 :=
  Kp.trans (A' := A) h (fun _ x => .inl x) h'.of_no
theorem Kp.no_trans {A : Nat → Prop} {w w1 w2 : World} (h : Kp No w w1) (h' : Kp A w1 w2) : Kp A w w2 :=
  Kp.trans (A' := A) h.of_no (fun _ x => .inl x) h'
theorem Kp.drewN {w : World} (n : Nat) : Kp No w (w.drewN n) := ⟨rfl, rfl, rfl, Nat.le_refl _, fun _ _ _ => rfl⟩
theorem Kp.drew {w : World} : Kp No w w.drew := ⟨rfl, rfl, rfl, Nat.le_refl _, fun _ _ _ => rfl⟩
theorem Kp.alloc {w : World} (o : Obj) : Kp No w (w.alloc o) := ⟨rfl, rfl, rfl, by simp, fun k hk _ => Below.heap_alloc w o k hk⟩
theorem Kp.grown {w w' : World} {r : Option Nat} (h : w.grownBy w' r) : Kp (fun k => r = some k) w w' := ⟨h.os, h.tape, h.output, h.size, fun k hk hn => h.block k hk (fun e => hn e.symm)⟩
theorem Kp.setCell {w : World} (a : Addr) (v : Value) : Kp (fun k => k = a.block) w (w.setCell a v) := ⟨rfl, rfl, rfl, by simp [World.setCell], fun k _ hn => Below.heap_setCell _ _ _ _ hn⟩
theorem Kp.below {A : Nat → Prop} {w w' : World} {B : Nat} (h : Kp A w w') (hB : B ≤ w.heap.size) (hA : ∀ k, A k → B ≤ k) : Below B w w' :=
  ⟨h.os, h.tape, h.output, h.size, fun k hk => h.block k (by omega) (fun x => by have := hA k x; omega)⟩
theorem Kp.cell {A : Nat → Prop} {w w' : World} (h : Kp A w w') {a : Addr} (hl : a.block < w.heap.size) (hn : ¬ A a.block) : w'.cell? a = w.cell? a := World.cell?_of_block (h.block _ hl hn)
theorem heap_lt {w : World} {k : Nat} {o : Obj} (h : w.heap[k]? = some o) : k < w.heap.size := (Array.getElem?_eq_some_iff.1 h).1

/-- An owned row stays what it is. -/
theorem ownsRow_kp {A : Nat → Prop} {w w' : World} {base : Nat} {e : TypeId} {size : Nat} {v : Value} {n : Nat} {xs : List Value} (h : w.ownsRow base e size v n xs) (hk : Kp A w w')
    (hn : ∀ k, v.ownBlock = some k → ¬ A k) : w'.ownsRow base e size v n xs := by
  refine ⟨h.1, ?_⟩
  rcases h.2 with hx | ⟨g, cap, cur, rfl, hb, hg, r⟩
  · exact .inl hx
  · exact .inr ⟨g, cap, cur, rfl, hb, by rw [hk.block g (heap_lt hg) (hn g rfl)]; exact hg, r⟩

/-- The block of an owned row. -/
theorem ownsRow_block {w : World} {base : Nat} {e : TypeId} {size : Nat} {v : Value} {n : Nat} {xs : List Value} (h : w.ownsRow base e size v n xs) {k : Nat} (hk : v.ownBlock = some k) :
    ∃ cur, w.heap[k]? = some (.cells cur e (0, 0)) := by
  rcases h.2 with ⟨rfl, _⟩ | ⟨g, cap, cur, rfl, hb, hg, _⟩
  · simp [Value.ownBlock] at hk
  · simp [Value.ownBlock] at hk; subst hk; exact ⟨cur, hg⟩

/-- An owned row's value, and its cells. -/
theorem ownsRow_open {w : World} {base : Nat} {e : TypeId} {size : Nat} {v : Value} {n : Nat} {xs : List Value} (h : w.ownsRow base e size v n xs) (hn : 0 < n) :
    ∃ g cap, v = .slice (some ⟨g, 0, none⟩) n cap ∧ n ≤ cap ∧ cap ≤ maxLen ∧ (∃ cur, w.heap[g]? = some (.cells cur e (0, 0)) ∧ cur.size = cap * size ∧ cur.toList.take (n * size) = xs) ∧
      (∀ j u, xs[j]? = some u → w.cell? ⟨g, j, none⟩ = some u) ∧ (∀ j, w.frozen? ⟨g, j, none⟩ = false) := by
  rcases h.2 with ⟨_, h0⟩ | ⟨g, cap, cur, rfl, hb, hg, h1, h2, h3, h4⟩
  · omega
  · refine ⟨g, cap, rfl, h1, h2, ⟨cur, hg, h3, h4⟩, ?_, ?_⟩
    · intro j u hu
      rw [cell_of_row w g j cur e (0, 0) hg]
      rw [← h4, List.getElem?_take] at hu
      split at hu
      · simpa using hu
      · cases hu
    · intro j
      simp [World.frozen?, hg]

/-! ### maps -/
section
variable {K V : Type} [DecidableEq K]

/-- What the walk needs of a key's type. -/
structure KeyOk (P : Program) (kt : TypeId) (enc : K → Value) : Prop where
  check : ∀ (w : World) (em : Bool) (k : K), (Instr.checkKey em 10000 kt (enc k)).run P w = .ok () w
  find : ∀ (w : World) (k : K) (es : List MapEntry) (ks : List K), es.map (·.key) = ks.map enc →
    (Instr.findKey kt (enc k) es).run P w = .ok ((ks.findIdx? (fun x => decide (x = k))).bind fun i => (es[i]?).map fun e => (i, e.val)) w
  bits : ∀ k, Instr.sameBits 10000 (enc k) (enc k) = true

def lk (l : List (K × V)) (k : K) : Option V := (l.find? (fun x => decide (x.1 = k))).map (·.2)

/-- Block b is a map that reads as f. -/
def MapAs (w : World) (b : Nat) (enc : K → Value) (ev : V → Value) (f : K → Option V) : Prop :=
  ∃ es clock, w.heap[b]? = some (.map es clock) ∧ ∃ l : List (K × V), es.toList.map (fun e => (e.key, e.val)) = l.map (fun x => (enc x.1, ev x.2)) ∧ ∀ k, lk l k = f k

theorem MapAs.kp {A : Nat → Prop} {w w' : World} {b : Nat} {enc : K → Value} {ev : V → Value} {f : K → Option V} (h : MapAs w b enc ev f) (hk : Kp A w w') (hn : ¬ A b) : MapAs w' b enc ev f := by
  obtain ⟨es, clock, hb, r⟩ := h
  exact ⟨es, clock, by rw [hk.block b (heap_lt hb) hn]; exact hb, r⟩

theorem MapAs.lt {w : World} {b : Nat} {enc : K → Value} {ev : V → Value} {f : K → Option V} (h : MapAs w b enc ev f) : b < w.heap.size := by
  obtain ⟨es, clock, hb, _⟩ := h
  exact heap_lt hb

theorem MapAs.empty (w : World) (enc : K → Value) (ev : V → Value) : MapAs (w.alloc (.map #[] 0)) w.heap.size enc ev (fun _ => none) :=
  ⟨#[], 0, heap_alloc_new w _, [], by simp, fun k => rfl⟩

theorem findIdx_lk (l : List (K × V)) (k : K) : ∀ (es : List MapEntry) (enc : K → Value) (ev : V → Value), es.map (fun e => (e.key, e.val)) = l.map (fun x => (enc x.1, ev x.2)) →
    (((l.map (·.1)).findIdx? (fun x => decide (x = k))).bind fun i => (es[i]?).map fun e => (i, e.val)).map (·.2) = (lk l k).map ev := by
  induction l with
  | nil => intro es enc ev h; simp [lk]
  | cons x l ih =>
    intro es enc ev h
    cases es with
    | nil => simp at h
    | cons e es =>
      simp only [List.map_cons, List.cons.injEq, Prod.mk.injEq] at h
      obtain ⟨⟨h1, h2⟩, h3⟩ := h
      by_cases hx : x.1 = k
      · simp [lk, hx, h2, List.findIdx?_cons]
      · have := ih es enc ev h3
        simp only [List.map_cons, List.findIdx?_cons, hx, decide_false, Bool.false_eq_true, if_false]
        simp only [lk, List.find?_cons, hx, decide_false] at this ⊢
        rw [← this]
        cases (List.map (fun x => x.1) l).findIdx? (fun x => decide (x = k)) <;> simp
        rename_i i
        cases es[i]? <;> simp

/-- 'v, ok := m[k]', 'm[k]'. -/
theorem MapAs.lookup {P : Program} {t kt et : TypeId} {w : World} {b : Nat} {enc : K → Value} {ev : V → Value} {f : K → Option V} (h : MapAs w b enc ev f) (ok : KeyOk P kt enc)
    (ht : P.underlying t = some (.map kt et)) {z : Value} (hz : ∀ w, (zeroValue et).run P w = .ok z w) (k : K) (c : Bool) :
    (Instr.lookup t (.map (some b)) (enc k) c).run P w = .ok (if c then .tuple #[((f k).map ev).getD z, .bool (f k).isSome] else ((f k).map ev).getD z) w := by
  obtain ⟨es, clock, hb, l, hl, hf⟩ := h
  have hks : es.toList.map (·.key) = (l.map (·.1)).map enc := by
    have := congrArg (List.map Prod.fst) hl
    simpa [List.map_map, Function.comp_def] using this
  have h1 := ok.find w k es.toList _ hks
  have h2 := findIdx_lk l k es.toList enc ev hl
  rw [hf k] at h2
  generalize ((l.map (·.1)).findIdx? (fun x => decide (x = k))).bind (fun i => (es.toList[i]?).map fun e => (i, e.val)) = r at h1 h2
  simp only [Instr.lookup, Sem.run_bind, run_underlying ht, Result.andThen_ok, MapKept.run_getObj_map hb, Sem.run_pure, ok.check]
  simp only [h1, Result.andThen_ok]
  cases r with
  | none =>
    cases hfk : f k with
    | none => simp [hz]
    | some v => simp [hfk] at h2
  | some iv =>
    cases hfk : f k with
    | none => simp [hfk] at h2
    | some v => simp [hfk] at h2; simp [h2]

theorem lk_append (l : List (K × V)) (k k' : K) (v : V) (hn : lk l k = none) : lk (l ++ [(k, v)]) k' = if k' = k then some v else lk l k' := by
  unfold lk at hn ⊢
  rw [List.find?_append]
  by_cases e : k' = k
  · subst e
    have : List.find? (fun x => decide (x.1 = k')) l = none := by simpa using hn
    simp [this]
  · have : ¬ k = k' := fun x => e x.symm
    simp only [List.find?_cons, this, decide_false, List.find?_nil, Option.or_none, e, if_false]

theorem lk_modify (l : List (K × V)) (k k' : K) (v : V) : ∀ i, (l.map (·.1)).findIdx? (fun x => decide (x = k)) = some i → lk (l.modify i fun _ => (k, v)) k' = if k' = k then some v else lk l k' := by
  induction l with
  | nil => intro i h; simp at h
  | cons x l ih =>
    intro i h
    simp only [List.map_cons, List.findIdx?_cons] at h
    by_cases hx : x.1 = k
    · simp only [hx, decide_true, if_true, Option.some.injEq] at h
      subst h
      by_cases e : k' = k
      · subst e; simp [lk]
      · have e' : ¬ k = k' := fun x => e x.symm
        simp [lk, e, e', hx]
    · simp only [hx, decide_false, Bool.false_eq_true, if_false, Option.map_eq_some_iff] at h
      obtain ⟨j, hj, rfl⟩ := h
      have := ih j hj
      simp only [lk, List.modify_succ_cons, List.find?_cons] at this ⊢
      by_cases e : x.1 = k'
      · have : ¬ k' = k := fun y => hx (e.trans y)
        simp [e, this]
      · simp only [e, decide_false]
        exact this

/-- 'm[k] = v'. -/
theorem MapAs.update {P : Program} {t kt et : TypeId} {w : World} {b : Nat} {enc : K → Value} {ev : V → Value} {f : K → Option V} (h : MapAs w b enc ev f) (ok : KeyOk P kt enc)
    (ht : P.underlying t = some (.map kt et)) (k : K) (v : V) :
    ∃ w', (∀ n, (Instr.mapUpdate t (.map (some b)) (enc k) (ev v)).run P (w.drewN n) = .ok () (w'.drewN n)) ∧ MapAs w' b enc ev (fun x => if x = k then some v else f x) ∧ Kp (fun x => x = b) w w' ∧ w'.heap.size = w.heap.size := by
  obtain ⟨es, clock, hb, l, hl, hf⟩ := h
  have hks : es.toList.map (·.key) = (l.map (·.1)).map enc := by
    have := congrArg (List.map Prod.fst) hl
    simpa [List.map_map, Function.comp_def] using this
  have h1 := fun n => ok.find (w.drewN n) k es.toList _ hks
  have hbn : ∀ n, (w.drewN n).heap[b]? = some (.map es clock) := fun n => hb
  have h2 := findIdx_lk l k es.toList enc ev hl
  have hlen : es.toList.length = l.length := by simpa using congrArg List.length hl
  cases hr : (l.map (·.1)).findIdx? (fun x => decide (x = k)) with
  | none =>
    have hn : lk l k = none := by rw [hr] at h2; simpa using h2.symm
    refine ⟨{ w with heap := w.heap.setIfInBounds b (.map (es.push { key := enc k, val := ev v, born := clock }) (clock + 1)) }, fun n => ?_, ?_, ⟨rfl, rfl, rfl, by simp, fun j _ hj => ?_⟩, by simp⟩
    · have h1' := h1 n
      rw [hr] at h1'
      simp only [Instr.mapUpdate, Sem.run_bind, run_underlying ht, Result.andThen_ok, MapKept.run_getObj_map (hbn n), ok.check, h1']
      simp only [Option.bind_none, MapKept.run_setObj_map _ (hbn n)]
      rfl
    · refine ⟨es.push { key := enc k, val := ev v, born := clock }, clock + 1, by simp [heap_lt hb], l ++ [(k, v)], by simp [hl], fun x => ?_⟩
      rw [lk_append l k x v hn, hf x]
    · simp [Ne.symm hj]
  | some i =>
    have hi : i < es.toList.length := by
      have := (List.findIdx?_eq_some_iff_getElem.1 hr).1
      simpa [hlen] using this
    have hkey : (es.toList[i]).key = enc k := by
      have h3 := (List.findIdx?_eq_some_iff_getElem.1 hr).2.1
      simp at h3
      have h4 : (es.toList.map (·.key))[i]? = ((l.map (·.1)).map enc)[i]? := by rw [hks]
      simp [List.getElem?_eq_getElem hi, List.getElem?_eq_getElem (hlen ▸ hi)] at h4
      simpa [h3] using h4
    refine ⟨{ w with heap := w.heap.setIfInBounds b (.map (es.modify i fun e => { e with key := enc k, val := ev v }) clock) }, fun n => ?_, ?_, ⟨rfl, rfl, rfl, by simp, fun j _ hj => ?_⟩, by simp⟩
    · have h1' := h1 n
      rw [hr] at h1'
      have hi' : i < es.size := by simpa using hi
      simp only [Instr.mapUpdate, Sem.run_bind, run_underlying ht, Result.andThen_ok, MapKept.run_getObj_map (hbn n), ok.check, h1', Option.bind_some, List.getElem?_eq_getElem hi, Option.map_some]
      have hk2 : ((es[i]?).map (·.key)).getD (enc k) = enc k := by
        simp [hi']; simpa using hkey
      simp only [hk2]
      simp only [Instr.keyThatStays, ok.bits, if_true, Sem.run_pure, Result.andThen_ok, MapKept.run_setObj_map _ (hbn n)]
      rfl
    · refine ⟨es.modify i fun e => { e with key := enc k, val := ev v }, clock, by simp [heap_lt hb], l.modify i fun _ => (k, v), ?_, fun x => ?_⟩
      · rw [Array.toList_modify]
        apply List.ext_getElem?
        intro j
        have hj := congrArg (fun L => L[j]?) hl
        simp only [List.getElem?_map, List.getElem?_modify] at hj ⊢
        by_cases e : i = j
        · subst e
          simp [List.getElem?_eq_getElem hi, List.getElem?_eq_getElem (hlen ▸ hi)]
        · simp [e]
          simpa using hj
      · rw [lk_modify l k x v i hr, hf x]
    · simp [Ne.symm hj]

end
end Go.Proofs.YtdgnbbmgcgfibaaGreatDoor

namespace Go.Proofs.YtdgnbbmgcgfibaaGreatDoor
open Go.RowKit

theorem Kp.setRow (w : World) (g : Nat) (cs : Array Value) : Kp (fun k => k = g) w (w.setRow g cs) := ⟨rfl, rfl, rfl, by simp, fun k _ hn => setRow_other _ _ _ _ hn⟩

theorem wpList_store_arr {P : Program} {ops : Array Oper} {rest : List Oper} {o : Oper} {a : Act} {w : World} {Q : Exit → Act → World → Prop} (hgd : o.guard = none) (ty : TypeId) (x y : Operand) (ho : o.op = .store ty x y)
    (g : Nat) (cells : Array Value) (hx : a.eval x = .pointer (some ⟨g, 0, none⟩)) (hy : a.eval y = .agg cells)
    (t : TypeId) (old : Array Value) (hg : w.heap[g]? = some (.cells old t (0, 0))) (hi : (P.info? ty).map (·.size) = some cells.size)
    (hold : old.size = cells.size) (h1 : cells.all (·.oneCell') = true)
    (h : ∀ w2, w2.heap[g]? = some (.cells cells t (0, 0)) → Kp (fun k => k = g) w w2 → wpList P ops Q rest (a.put o.dst undef) w2) : wpList P ops Q (o :: rest) a w :=
  wpList_store_row hgd ty x y ho g cells hx hy t old hg hi hold h1 (h _ (setRow_heap _ _ _ _ _ _ hg) (Kp.setRow _ _ _))

end Go.Proofs.YtdgnbbmgcgfibaaGreatDoor

namespace Go.Proofs.YtdgnbbmgcgfibaaGreatDoor
open Go.ChangeShapes Go.WideShapes Go.ChangeAt Go.RowKit

theorem Kp.below_all {W W' : World} (h : Kp No W W') : Below W.heap.size W W' := h.below (Nat.le_refl _) (fun _ x => x.elim)

/-- What was there reads as it did, so the row's end is met. -/
theorem row_end {H : Type} {enc : TypeId × Value → H} {P : Program} {f : Func} {s : ChangeSpec} {apart fresh handsOn again : Bool} {W W' : World} {args : Array Value} {v : Value} {ds gs : List (DataW H)} {places pa pv : List MemPlace}
    (whole : DataW.Whole enc P f.params.toList s.vars apart W args.toList ds gs places)
    (res : ∀ (b : Nat) (sp : Nat → Bool) (hd : Bool), DataW.TrodAll enc P W' b sp hd f.resultTypes.toList (v.resultList f.resultTypes.size) (s.fn H (ds ++ gs)).results [])
    (again_args : ∀ sp : Nat → Bool, (∀ q ∈ places, sp q.block = true) → DataW.TrodAll enc P W' 0 sp true f.params.toList args.toList (s.fn H (ds ++ gs)).args pa)
    (again_vars : ∀ sp : Nat → Bool, (∀ q ∈ places, sp q.block = true) → DataW.TrodVars enc P W' sp s.vars (s.fn H (ds ++ gs)).vars pv)
    (split : places = pa ++ pv) (kept : Kp No W W')
    (ok : ∀ (j : Nat) (t : TypeId) (r : Value), f.resultTypes[j]? = some t → (v.resultList f.resultTypes.size)[j]? = some r → Value.okWide P W' .any 0 t r) :
    s.post enc P f apart fresh handsOn again W args v W' := by
  have below := kept.below_all
  have old : ∀ q ∈ places, q.block < W.heap.size := fun q hq => whole.lt q hq
  have mark : ∀ q ∈ places, (fun b => decide (b < W.heap.size)) q.block = true := fun q hq => decide_eq_true (old q hq)
  have frame := below.frame (· ∈ places)
  obtain ⟨w1, w2, w3, w4, w5, frozen, nodup⟩ := id whole
  have tail : ∀ q, q ∈ ([] ++ pa) ++ pv ↔ q ∈ places := fun q => by rw [split]; simp
  refine ⟨ds, gs, places, [], pa, pv, whole, res _ _ _, again_args _ mark, again_vars _ mark, World.keptBut_mono (fun q hq => ⟨hq, .inr (by rw [← List.mem_append, ← split]; exact hq)⟩) frame, fun _ => ?_⟩
  refine ⟨ok, _, _, ([] ++ pa) ++ pv, ⟨[] ++ pa, pv, trodAll_append (again_args _ (fun _ _ => rfl)) (res _ _ _), again_vars _ (fun _ _ => rfl), rfl, fun b off hq => ?_, fun ha => ?_⟩, fun q hq _ => ?_⟩
  · have hin := (tail _).1 hq
    rw [below.frozen (old _ hin)]
    exact frozen b off hin
  · have := nodup ha
    rw [split] at this
    simpa using this
  · exact (tail q).1 hq

theorem godebug_own : ownKnob Tryz.prog.godebug = none := by kernel_rfl

end Go.Proofs.YtdgnbbmgcgfibaaGreatDoor

namespace Go.Proofs.YtdgnbbmgcgfibaaGreatDoor
open Go.RowKit

abbrev Trip := Int × Int × Int
def tripV (x : Trip) : Value := .agg #[.int .i64 x.1, .int .i64 x.2.1, .int .i64 x.2.2]
def intV (n : Int) : Value := .int .i64 n

theorem findAsking_ok {K : Type} [DecidableEq K] {P : Program} {kt : TypeId} {enc : K → Value} (w : World) (k : K) (heq : ∀ a b : K, (Op.equal kt (enc a) (enc b)).run P w = .ok (decide (a = b)) w) :
    ∀ (es : List MapEntry) (ks : List K) (i : Nat), es.map (·.key) = ks.map enc →
      (Instr.findAsking kt (enc k) es i).run P w = .ok ((ks.findIdx? (fun x => decide (x = k))).bind fun j => (es[j]?).map fun e => (i + j, e.val)) w
  | [], ks, i, h => by
    have : ks = [] := by simpa using h.symm
    subst this
    simp [Instr.findAsking]
  | e :: es, [], i, h => by simp at h
  | e :: es, x :: ks, i, h => by
    simp only [List.map_cons, List.cons.injEq] at h
    have ih := findAsking_ok w k heq es ks (i + 1) h.2
    simp only [Instr.findAsking, Sem.run_bind, h.1, heq k x, Result.andThen_ok]
    by_cases hx : x = k
    · subst hx
      simp [List.findIdx?_cons]
    · have hx' : ¬ k = x := fun y => hx y.symm
      simp only [hx', decide_false, Bool.false_eq_true, if_false, ih]
      simp only [List.findIdx?_cons, hx, decide_false, Bool.false_eq_true, if_false]
      cases ks.findIdx? (fun x => decide (x = k)) <;> simp
      rename_i j
      cases es[j]? <;> simp
      omega

theorem keyOk_struct {K : Type} [DecidableEq K] {P : Program} {kt : TypeId} {fs : Array Field} {enc : K → Value} (hu : P.underlying kt = some (.struct fs)) (hagg : ∀ k, ∃ cs, enc k = .agg cs)
    (hc : ∀ (w : World) (em : Bool) (k : K), (Instr.checkKey em 10000 kt (enc k)).run P w = .ok () w)
    (heq : ∀ (w : World) (a b : K), (Op.equal kt (enc a) (enc b)).run P w = .ok (decide (a = b)) w)
    (hb : ∀ k, Instr.sameBits 10000 (enc k) (enc k) = true) : KeyOk P kt enc where
  check := hc
  bits := hb
  find := by
    intro w k es ks h
    have h1 := findAsking_ok w k (heq w) es ks 0 h
    simp only [Instr.findKey, Sem.run_bind, run_underlying hu, Result.andThen_ok]
    cases es with
    | nil =>
      have : ks = [] := by simpa using h.symm
      subst this
      simp [Instr.findNow]
    | cons e es =>
      obtain ⟨c1, e1⟩ := hagg k
      have : Instr.findNow (.struct fs) (enc k) (e :: es) 0 = none := by
        rw [e1]; simp [Instr.findNow, Instr.sameNow]
      rw [this]
      simp only [h1, Nat.zero_add]

theorem findNow_int {q : IntKind} (k : Int) : ∀ (es : List MapEntry) (ks : List Int) (i : Nat), es.map (·.key) = ks.map (Value.int q) →
    Instr.findNow (.int q) (.int q k) es i = some ((ks.findIdx? (fun x => decide (x = k))).bind fun j => (es[j]?).map fun e => (i + j, e.val))
  | [], ks, i, h => by
    have : ks = [] := by simpa using h.symm
    subst this
    simp [Instr.findNow]
  | e :: es, [], i, h => by simp at h
  | e :: es, x :: ks, i, h => by
    simp only [List.map_cons, List.cons.injEq] at h
    have ih := findNow_int k es ks (i + 1) h.2
    by_cases hx : x = k
    · subst hx
      simp [List.findIdx?_cons, Instr.findNow, Instr.sameNow, h.1]
    · have hx' : (k == x) = false := by simpa using fun y => hx (Eq.symm y)
      simp only [Instr.findNow, Instr.sameNow, h.1, if_true, hx', ih]
      simp only [List.findIdx?_cons, hx, decide_false, Bool.false_eq_true, if_false]
      cases ks.findIdx? (fun x => decide (x = k)) <;> simp
      rename_i j
      cases es[j]? <;> simp
      omega

theorem keyOk_int {P : Program} {kt : TypeId} (hu : P.underlying kt = some (.int .i64)) : KeyOk P kt intV where
  check := by
    intro w em k
    rw [show (10000 : Nat) = 9999 + 1 from rfl, intV, Instr.checkKey]
    simp [run_underlying hu]
  bits := by
    intro k
    simp [intV, Instr.sameBits]
  find := by
    intro w k es ks h
    have h1 := findNow_int (q := .i64) k es ks 0 h
    simp only [Instr.findKey, Sem.run_bind, run_underlying hu, Result.andThen_ok, intV, h1, Nat.zero_add]
    simp

theorem sameBits_trip (x : Trip) : Instr.sameBits 10000 (tripV x) (tripV x) = true := by
  rw [show (10000 : Nat) = 9999 + 1 from rfl]
  simp [tripV, Instr.sameBits]

theorem trip_eq (x y : Trip) : (x.1 == y.1 && (x.2.1 == y.2.1 && x.2.2 == y.2.2)) = decide (x = y) := by
  obtain ⟨a, b, c⟩ := x
  obtain ⟨a', b', c'⟩ := y
  rw [Bool.eq_iff_iff]
  simp

theorem keyNode : KeyOk Tryz.prog 103 tripV :=
  keyOk_struct (fs := Tryz.prog.fieldsOf 103) (by kernel_rfl) (fun k => ⟨_, rfl⟩) (fun w em k => by unfold tripV; kernel_rfl)
    (fun w a b => by
      rw [← trip_eq]
      unfold tripV
      by_cases h1 : a.1 = b.1 <;> by_cases h2 : a.2.1 = b.2.1 <;> by_cases h3 : a.2.2 = b.2.2 <;> simp [Op.equal, Op.maxDepth, h1, h2, h3] <;> go_simp)
    sameBits_trip

theorem keyTriple : KeyOk Tryz.prog 170 tripV :=
  keyOk_struct (fs := Tryz.prog.fieldsOf 170) (by kernel_rfl) (fun k => ⟨_, rfl⟩) (fun w em k => by unfold tripV; kernel_rfl)
    (fun w a b => by
      rw [← trip_eq]
      unfold tripV
      by_cases h1 : a.1 = b.1 <;> by_cases h2 : a.2.1 = b.2.1 <;> by_cases h3 : a.2.2 = b.2.2 <;> simp [Op.equal, Op.maxDepth, h1, h2, h3] <;> go_simp)
    sameBits_trip

theorem keyRef : KeyOk Tryz.prog 54 intV := keyOk_int Tryz.underlying54

theorem zeroRef (w : World) : (zeroValue 54).run Tryz.prog w = .ok (.int .i64 0) w := by kernel_rfl

end Go.Proofs.YtdgnbbmgcgfibaaGreatDoor

namespace Go.Proofs.YtdgnbbmgcgfibaaGreatDoor
open Go.RowKit

def natV (n : Nat) : Value := .int .i64 (n : Int)
def ndCells (x : Nd) : List Value := [.int .i64 x.1, .int .i64 (x.2.1 : Int), .int .i64 (x.2.2 : Int)]
abbrev ptr (p : Nat) : Value := .pointer (some ⟨p, 0, none⟩)
/-- No store of nodes grows beyond this. -/
def big : Nat := 4398046511104

structure Lay where
  so : Value
  sl : Value
  sn : Value
  ss : Value
  sf : Value
  bu : Nat
  bm : Nat
  bc : Nat

/-- The blocks that a manager at p owns. -/
def Lay.at (L : Lay) (p : Nat) (k : Nat) : Prop :=
  k = p ∨ k = L.bu ∨ k = L.bm ∨ L.so.ownBlock = some k ∨ L.sl.ownBlock = some k ∨ L.sn.ownBlock = some k ∨ L.ss.ownBlock = some k ∨ L.sf.ownBlock = some k

structure Raw (w : World) (p : Nat) (L : Lay) (order level : List Nat) (nodes : List Nd) (shown : List Bool) (free : List Nat) (U F : Trip → Option Nat) : Prop where
  mgr : w.heap[p]? = some (.cells #[L.so, L.sl, L.sn, L.ss, L.sf, .map (some L.bu), .map (some L.bm), .map (some L.bc)] 110 (0, 0))
  order : w.ownsRow 0 3 1 L.so order.length (order.map natV)
  level : w.ownsRow 0 3 1 L.sl level.length (level.map natV)
  nodes : w.ownsRow 0 103 3 L.sn nodes.length (nodes.flatMap ndCells)
  shown : w.ownsRow 0 4 1 L.ss shown.length (shown.map .bool)
  free : w.ownsRow 0 54 1 L.sf free.length (free.map natV)
  uniq : MapAs w L.bu tripV natV U
  memo : MapAs w L.bm tripV natV F
  ne : L.bu ≠ L.bm

namespace Mgr
/-- What the map 'unique' holds. -/
def uq (M : Mgr) (x : Trip) : Option Nat := if 0 ≤ x.1 ∧ 0 ≤ x.2.1 ∧ 0 ≤ x.2.2 then M.find (x.1, x.2.1.toNat, x.2.2.toNat) else none
/-- What the map 'memo' holds is right. -/
def Sound (M : Mgr) (F : Trip → Option Nat) : Prop := ∀ x r, F x = some r → ∃ f g h : Nat, x = ((f : Int), (g : Int), (h : Int)) ∧ M.stored f ∧ M.stored g ∧ M.stored h ∧ M.stored r ∧
  ∀ a, M.sem r a = if M.sem f a then M.sem g a else M.sem h a

theorem Sound.ext {M M' : Mgr} {F : Trip → Option Nat} (h : M.WF) (s : M.Sound F) (e : Ext M M') : M'.Sound F := by
  intro x r hr
  obtain ⟨f, g, k, hx, sf, sg, sk, sr, hs⟩ := s x r hr
  exact ⟨f, g, k, hx, e.stored sf, e.stored sg, e.stored sk, e.stored sr, fun a => by rw [e.sem h sr, e.sem h sf, e.sem h sg, e.sem h sk, hs]⟩
end Mgr

/-- The manager at p is M. -/
structure Rep (w : World) (p : Nat) (M : Mgr) (L : Lay) : Prop where
  raw : ∃ F, Raw w p L M.order M.level M.nodes M.shown M.free M.uq F ∧ M.Sound F
  wf : M.WF

section
variable {w : World} {p : Nat} {L : Lay} {order level : List Nat} {nodes : List Nd} {shown : List Bool} {free : List Nat} {U F : Trip → Option Nat}

theorem Raw.lt (R : Raw w p L order level nodes shown free U F) : ∀ k, L.at p k → k < w.heap.size := by
  intro k hk
  have row : ∀ {e size v n xs}, w.ownsRow 0 e size v n xs → v.ownBlock = some k → k < w.heap.size := fun h hv => (h.lt k hv).2
  rcases hk with rfl | rfl | rfl | h | h | h | h | h
  · exact heap_lt R.mgr
  · exact R.uniq.lt
  · exact R.memo.lt
  · exact row R.order h
  · exact row R.level h
  · exact row R.nodes h
  · exact row R.shown h
  · exact row R.free h

theorem Raw.kp {A : Nat → Prop} {w' : World} (R : Raw w p L order level nodes shown free U F) (hk : Kp A w w') (hA : ∀ k, A k → ¬ L.at p k) : Raw w' p L order level nodes shown free U F where
  mgr := by rw [hk.block p (heap_lt R.mgr) (fun x => hA p x (.inl rfl))]; exact R.mgr
  order := ownsRow_kp R.order hk (fun k e x => hA k x (by simp [Lay.at, e]))
  level := ownsRow_kp R.level hk (fun k e x => hA k x (by simp [Lay.at, e]))
  nodes := ownsRow_kp R.nodes hk (fun k e x => hA k x (by simp [Lay.at, e]))
  shown := ownsRow_kp R.shown hk (fun k e x => hA k x (by simp [Lay.at, e]))
  free := ownsRow_kp R.free hk (fun k e x => hA k x (by simp [Lay.at, e]))
  uniq := R.uniq.kp hk (fun x => hA _ x (by simp [Lay.at]))
  memo := R.memo.kp hk (fun x => hA _ x (by simp [Lay.at]))
  ne := R.ne

theorem Raw.no {w' : World} (R : Raw w p L order level nodes shown free U F) (hk : Kp No w w') : Raw w' p L order level nodes shown free U F := R.kp hk (fun _ x => x.elim)

/-! the manager's own cells -/
theorem Raw.c0 (R : Raw w p L order level nodes shown free U F) : w.cell? ⟨p, 0, none⟩ = some L.so := by simp [World.cell?, R.mgr]
theorem Raw.c1 (R : Raw w p L order level nodes shown free U F) : w.cell? ⟨p, 1, none⟩ = some L.sl := by simp [World.cell?, R.mgr]
theorem Raw.c2 (R : Raw w p L order level nodes shown free U F) : w.cell? ⟨p, 2, none⟩ = some L.sn := by simp [World.cell?, R.mgr]
theorem Raw.c3 (R : Raw w p L order level nodes shown free U F) : w.cell? ⟨p, 3, none⟩ = some L.ss := by simp [World.cell?, R.mgr]
theorem Raw.c4 (R : Raw w p L order level nodes shown free U F) : w.cell? ⟨p, 4, none⟩ = some L.sf := by simp [World.cell?, R.mgr]
theorem Raw.c5 (R : Raw w p L order level nodes shown free U F) : w.cell? ⟨p, 5, none⟩ = some (.map (some L.bu)) := by simp [World.cell?, R.mgr]
theorem Raw.c6 (R : Raw w p L order level nodes shown free U F) : w.cell? ⟨p, 6, none⟩ = some (.map (some L.bm)) := by simp [World.cell?, R.mgr]
theorem Raw.fz (R : Raw w p L order level nodes shown free U F) (i : Nat) : w.frozen? ⟨p, i, none⟩ = false := by simp [World.frozen?, R.mgr]
theorem Raw.plt (R : Raw w p L order level nodes shown free U F) : p < w.heap.size := heap_lt R.mgr

/-- Blocks that hold rows of different types, or maps, are different. -/
theorem row_ne {w : World} {e1 e2 s1 s2 n1 n2 : Nat} {v1 v2 : Value} {x1 x2 : List Value} (h1 : w.ownsRow 0 e1 s1 v1 n1 x1) (h2 : w.ownsRow 0 e2 s2 v2 n2 x2) (he : e1 ≠ e2) {k : Nat} (hk : v1.ownBlock = some k) : v2.ownBlock ≠ some k := by
  intro hk2
  obtain ⟨c1, g1⟩ := ownsRow_block h1 hk
  obtain ⟨c2, g2⟩ := ownsRow_block h2 hk2
  rw [g1] at g2
  cases g2
  exact he rfl
theorem row_map {K V : Type} [DecidableEq K] {w : World} {e1 s1 n1 b : Nat} {v1 : Value} {x1 : List Value} {enc : K → Value} {ev : V → Value} {f : K → Option V} (h1 : w.ownsRow 0 e1 s1 v1 n1 x1) (h2 : MapAs w b enc ev f) : v1.ownBlock ≠ some b := by
  intro hk
  obtain ⟨c1, g1⟩ := ownsRow_block h1 hk
  obtain ⟨es, cl, g2, _⟩ := h2
  rw [g1] at g2
  cases g2
theorem Raw.map_ne {K V : Type} [DecidableEq K] {b : Nat} {enc : K → Value} {ev : V → Value} {f : K → Option V} (R : Raw w p L order level nodes shown free U F) (h2 : MapAs w b enc ev f) : b ≠ p := by
  intro e
  obtain ⟨es, cl, g2, _⟩ := h2
  rw [e, R.mgr] at g2
  cases g2
theorem Raw.row_mgr {e1 s1 n1 : Nat} {v1 : Value} {x1 : List Value} (R : Raw w p L order level nodes shown free U F) (h1 : w.ownsRow 0 e1 s1 v1 n1 x1) (he : e1 ≠ 110) : v1.ownBlock ≠ some p := by
  intro hk
  obtain ⟨c1, g1⟩ := ownsRow_block h1 hk
  rw [R.mgr] at g1
  cases g1
  exact he rfl

theorem setCell_heap {w : World} {k i : Nat} {c : Array Value} {t : TypeId} {fr : Nat × Nat} (h : w.heap[k]? = some (.cells c t fr)) (v : Value) :
    (w.setCell ⟨k, i, none⟩ v).heap[k]? = some (.cells (c.setIfInBounds i v) t fr) := by
  simp [World.setCell, Array.getElem?_modify, h]

theorem ownsRow_set {w : World} {e size n : Nat} {v : Value} {xs : List Value} (h : w.ownsRow 0 e size v n xs) {p i : Nat} {u : Value} (hn : v.ownBlock ≠ some p) : (w.setCell ⟨p, i, none⟩ u).ownsRow 0 e size v n xs :=
  ownsRow_kp h (Kp.setCell _ _) (fun k e x => hn (by rw [e]; exact congrArg some x))

/-- The field 'free' is set. -/
theorem Raw.setFree {free' : List Nat} {v : Value} (R : Raw w p L order level nodes shown free U F) (h : w.ownsRow 0 54 1 v free'.length (free'.map natV)) :
    Raw (w.setCell ⟨p, 4, none⟩ v) p { L with sf := v } order level nodes shown free' U F where
  mgr := by rw [setCell_heap R.mgr]; rfl
  order := ownsRow_set R.order (R.row_mgr R.order (by decide))
  level := ownsRow_set R.level (R.row_mgr R.level (by decide))
  nodes := ownsRow_set R.nodes (R.row_mgr R.nodes (by decide))
  shown := ownsRow_set R.shown (R.row_mgr R.shown (by decide))
  free := ownsRow_set h (R.row_mgr h (by decide))
  uniq := R.uniq.kp (Kp.setCell _ _) (fun x => R.map_ne R.uniq x)
  memo := R.memo.kp (Kp.setCell _ _) (fun x => R.map_ne R.memo x)
  ne := R.ne

/-- The field 'memo' is set to another map. -/
theorem Raw.setMemo {b : Nat} {F' : Trip → Option Nat} (R : Raw w p L order level nodes shown free U F) (h : MapAs w b tripV natV F') (hb : L.bu ≠ b) :
    Raw (w.setCell ⟨p, 6, none⟩ (.map (some b))) p { L with bm := b } order level nodes shown free U F' where
  mgr := by rw [setCell_heap R.mgr]; rfl
  order := ownsRow_set R.order (R.row_mgr R.order (by decide))
  level := ownsRow_set R.level (R.row_mgr R.level (by decide))
  nodes := ownsRow_set R.nodes (R.row_mgr R.nodes (by decide))
  shown := ownsRow_set R.shown (R.row_mgr R.shown (by decide))
  free := ownsRow_set R.free (R.row_mgr R.free (by decide))
  uniq := R.uniq.kp (Kp.setCell _ _) (fun x => R.map_ne R.uniq x)
  memo := h.kp (Kp.setCell _ _) (fun x => R.map_ne h x)
  ne := hb

/-- A map of the manager's is updated. -/
theorem Raw.setUniq {w' : World} {U' : Trip → Option Nat} (R : Raw w p L order level nodes shown free U F) (h : MapAs w' L.bu tripV natV U') (hk : Kp (fun x => x = L.bu) w w') :
    Raw w' p L order level nodes shown free U' F where
  mgr := by rw [hk.block p R.plt (fun x => R.map_ne R.uniq x.symm)]; exact R.mgr
  order := ownsRow_kp R.order hk (fun k e x => row_map R.order R.uniq (by rw [e, x]))
  level := ownsRow_kp R.level hk (fun k e x => row_map R.level R.uniq (by rw [e, x]))
  nodes := ownsRow_kp R.nodes hk (fun k e x => row_map R.nodes R.uniq (by rw [e, x]))
  shown := ownsRow_kp R.shown hk (fun k e x => row_map R.shown R.uniq (by rw [e, x]))
  free := ownsRow_kp R.free hk (fun k e x => row_map R.free R.uniq (by rw [e, x]))
  uniq := h
  memo := R.memo.kp hk (fun x => R.ne x.symm)
  ne := R.ne

theorem Raw.updMemo {w' : World} {F' : Trip → Option Nat} (R : Raw w p L order level nodes shown free U F) (h : MapAs w' L.bm tripV natV F') (hk : Kp (fun x => x = L.bm) w w') :
    Raw w' p L order level nodes shown free U F' where
  mgr := by rw [hk.block p R.plt (fun x => R.map_ne R.memo x.symm)]; exact R.mgr
  order := ownsRow_kp R.order hk (fun k e x => row_map R.order R.memo (by rw [e, x]))
  level := ownsRow_kp R.level hk (fun k e x => row_map R.level R.memo (by rw [e, x]))
  nodes := ownsRow_kp R.nodes hk (fun k e x => row_map R.nodes R.memo (by rw [e, x]))
  shown := ownsRow_kp R.shown hk (fun k e x => row_map R.shown R.memo (by rw [e, x]))
  free := ownsRow_kp R.free hk (fun k e x => row_map R.free R.memo (by rw [e, x]))
  uniq := R.uniq.kp hk (fun x => R.ne x)
  memo := h
  ne := R.ne

/-- Behind an append (or a store) to the row of 'nodes', the field not yet set. -/
theorem Raw.kpNodes {w' : World} (R : Raw w p L order level nodes shown free U F) (hk : Kp (fun k => L.sn.ownBlock = some k) w w') (nodes' : List Nd)
    (hn : w'.ownsRow 0 103 3 L.sn nodes'.length (nodes'.flatMap ndCells)) : Raw w' p L order level nodes' shown free U F where
  mgr := by rw [hk.block p R.plt (R.row_mgr R.nodes (by decide))]; exact R.mgr
  order := ownsRow_kp R.order hk (fun k e x => row_ne R.order R.nodes (by decide) e x)
  level := ownsRow_kp R.level hk (fun k e x => row_ne R.level R.nodes (by decide) e x)
  nodes := hn
  shown := ownsRow_kp R.shown hk (fun k e x => row_ne R.shown R.nodes (by decide) e x)
  free := ownsRow_kp R.free hk (fun k e x => row_ne R.free R.nodes (by decide) e x)
  uniq := R.uniq.kp hk (row_map R.nodes R.uniq)
  memo := R.memo.kp hk (row_map R.nodes R.memo)
  ne := R.ne

theorem Raw.kpShown {w' : World} (R : Raw w p L order level nodes shown free U F) (hk : Kp (fun k => L.ss.ownBlock = some k) w w') (shown' : List Bool)
    (hn : w'.ownsRow 0 4 1 L.ss shown'.length (shown'.map .bool)) : Raw w' p L order level nodes shown' free U F where
  mgr := by rw [hk.block p R.plt (R.row_mgr R.shown (by decide))]; exact R.mgr
  order := ownsRow_kp R.order hk (fun k e x => row_ne R.order R.shown (by decide) e x)
  level := ownsRow_kp R.level hk (fun k e x => row_ne R.level R.shown (by decide) e x)
  nodes := ownsRow_kp R.nodes hk (fun k e x => row_ne R.nodes R.shown (by decide) e x)
  shown := hn
  free := ownsRow_kp R.free hk (fun k e x => row_ne R.free R.shown (by decide) e x)
  uniq := R.uniq.kp hk (row_map R.shown R.uniq)
  memo := R.memo.kp hk (row_map R.shown R.memo)
  ne := R.ne

/-- The same with the field set behind the append. -/
theorem Raw.pushNodes {w' : World} {v : Value} (R : Raw w p L order level nodes shown free U F) (hk : Kp (fun k => L.sn.ownBlock = some k) w w') (nodes' : List Nd)
    (hn : w'.ownsRow 0 103 3 v nodes'.length (nodes'.flatMap ndCells)) : Raw (w'.setCell ⟨p, 2, none⟩ v) p { L with sn := v } order level nodes' shown free U F := by
  have mg : w'.heap[p]? = _ := (hk.block p R.plt (R.row_mgr R.nodes (by decide))).trans R.mgr
  have np : v.ownBlock ≠ some p := fun e => by
    obtain ⟨c1, g1⟩ := ownsRow_block hn e
    rw [mg] at g1
    cases g1
  have row : ∀ {e s n u x}, e ≠ 103 → e ≠ 110 → w.ownsRow 0 e s u n x → (w'.setCell ⟨p, 2, none⟩ v).ownsRow 0 e s u n x := fun h1 h2 h =>
    ownsRow_set (ownsRow_kp h hk (fun k e x => row_ne h R.nodes h1 e x)) (R.row_mgr h h2)
  exact {
    mgr := by rw [setCell_heap mg]; rfl
    order := row (by decide) (by decide) R.order
    level := row (by decide) (by decide) R.level
    nodes := ownsRow_set hn np
    shown := row (by decide) (by decide) R.shown
    free := row (by decide) (by decide) R.free
    uniq := (R.uniq.kp hk (row_map R.nodes R.uniq)).kp (Kp.setCell _ _) (fun x => R.map_ne R.uniq x)
    memo := (R.memo.kp hk (row_map R.nodes R.memo)).kp (Kp.setCell _ _) (fun x => R.map_ne R.memo x)
    ne := R.ne }

theorem Raw.pushShown {w' : World} {v : Value} (R : Raw w p L order level nodes shown free U F) (hk : Kp (fun k => L.ss.ownBlock = some k) w w') (shown' : List Bool)
    (hn : w'.ownsRow 0 4 1 v shown'.length (shown'.map .bool)) : Raw (w'.setCell ⟨p, 3, none⟩ v) p { L with ss := v } order level nodes shown' free U F := by
  have mg : w'.heap[p]? = _ := (hk.block p R.plt (R.row_mgr R.shown (by decide))).trans R.mgr
  have np : v.ownBlock ≠ some p := fun e => by
    obtain ⟨c1, g1⟩ := ownsRow_block hn e
    rw [mg] at g1
    cases g1
  have row : ∀ {e s n u x}, e ≠ 4 → e ≠ 110 → w.ownsRow 0 e s u n x → (w'.setCell ⟨p, 3, none⟩ v).ownsRow 0 e s u n x := fun h1 h2 h =>
    ownsRow_set (ownsRow_kp h hk (fun k e x => row_ne h R.shown h1 e x)) (R.row_mgr h h2)
  exact {
    mgr := by rw [setCell_heap mg]; rfl
    order := row (by decide) (by decide) R.order
    level := row (by decide) (by decide) R.level
    nodes := row (by decide) (by decide) R.nodes
    shown := ownsRow_set hn np
    free := row (by decide) (by decide) R.free
    uniq := (R.uniq.kp hk (row_map R.shown R.uniq)).kp (Kp.setCell _ _) (fun x => R.map_ne R.uniq x)
    memo := (R.memo.kp hk (row_map R.shown R.memo)).kp (Kp.setCell _ _) (fun x => R.map_ne R.memo x)
    ne := R.ne }

end

/-! ### the cells of a list of nodes -/
theorem ndCells_get (l : List Nd) (f j : Nat) (x : Nd) (h : l[f]? = some x) (hj : j < 3) : (l.flatMap ndCells)[f * 3 + j]? = (ndCells x)[j]? := by
  induction l generalizing f with
  | nil => simp at h
  | cons y l ih =>
    cases f with
    | zero =>
      simp at h; subst h
      rw [List.flatMap_cons, List.getElem?_append_left (by simp [ndCells]; omega)]
      simp
    | succ f =>
      simp at h
      rw [List.flatMap_cons, List.getElem?_append_right (by simp [ndCells]; omega)]
      have : (f + 1) * 3 + j - (ndCells y).length = f * 3 + j := by simp [ndCells]; omega
      rw [this]
      exact ih f h

theorem nd_get {M : Mgr} {f : Nat} (h : f < M.nodes.length) : M.nodes[f]? = some (M.nd f) := by
  simp [Mgr.nd, h]

/-- What a call leaves behind that changes the manager at p alone. -/
def Ret (p : Nat) (L : Lay) (w : World) (M' : Mgr) (v : Value) (e : Ending) (w' : World) : Prop :=
  ∃ L', e = .returned v ∧ Rep w' p M' L' ∧ Kp (L.at p) w w' ∧ Fresh (L.at p) (L'.at p) w

end Go.Proofs.YtdgnbbmgcgfibaaGreatDoor
