/-
  Plain mathematics of ordered binary decision diagrams: stores of nodes, what a node denotes, canonicity, building a function. No program is named here.
-/
namespace Go.Proofs.YtgglkldoclejaaaDoor

/-- A node: its variable (-1: none), its children. -/
abbrev Nd := Int × Nat × Nat

structure Mgr where
  order : List Nat
  level : List Nat
  nodes : List Nd
  shown : List Bool
  free : List Nat

namespace Mgr

def n (M : Mgr) : Nat := M.order.length
def nd (M : Mgr) (f : Nat) : Nd := M.nodes.getD f (-1, 0, 0)
def lev (M : Mgr) (v : Nat) : Nat := M.level.getD v 0
def ord (M : Mgr) (i : Nat) : Nat := M.order.getD i 0
def stored (M : Mgr) (f : Nat) : Prop := f < 2 ∨ (f < M.nodes.length ∧ (M.nd f).1 ≠ -1)
def depth (M : Mgr) (f : Nat) : Nat := if f < 2 then M.n else M.lev (M.nd f).1.toNat
def vis (M : Mgr) (f : Nat) : Bool := M.shown.getD f false

structure WF (M : Mgr) : Prop where
  len : M.level.length = M.order.length
  ol : ∀ v, v < M.n → M.lev v < M.n ∧ M.ord (M.lev v) = v
  lo_ : ∀ i, i < M.n → M.ord i < M.n ∧ M.lev (M.ord i) = i
  two : 2 ≤ M.nodes.length
  nd0 : M.nd 0 = (-1, 0, 0)
  nd1 : M.nd 1 = (-1, 0, 0)
  sh : M.shown.length = M.nodes.length
  sh0 : M.vis 0 = true
  sh1 : M.vis 1 = true
  shst : ∀ f, M.vis f = true → M.stored f
  node : ∀ f, 2 ≤ f → f < M.nodes.length → (M.nd f).1 ≠ -1 →
    0 ≤ (M.nd f).1 ∧ (M.nd f).1 < M.n ∧ M.stored (M.nd f).2.1 ∧ M.stored (M.nd f).2.2 ∧ (M.nd f).2.1 ≠ (M.nd f).2.2 ∧
    M.lev (M.nd f).1.toNat < M.depth (M.nd f).2.1 ∧ M.lev (M.nd f).1.toNat < M.depth (M.nd f).2.2
  inj : ∀ f g, 2 ≤ f → 2 ≤ g → f < M.nodes.length → g < M.nodes.length → M.nd f = M.nd g → (M.nd f).1 ≠ -1 → f = g
  fr : ∀ f, f ∈ M.free → 2 ≤ f ∧ f < M.nodes.length ∧ (M.nd f).1 = -1
  fnd : M.free.Nodup

def semF (M : Mgr) : Nat → Nat → (Nat → Bool) → Bool
  | 0, f, _ => f == 1
  | k + 1, f, a => if f < 2 then f == 1 else if a (M.nd f).1.toNat then semF M k (M.nd f).2.2 a else semF M k (M.nd f).2.1 a

def sem (M : Mgr) (f : Nat) (a : Nat → Bool) : Bool := M.semF (M.n + 1) f a

theorem depth_le {M : Mgr} (h : M.WF) {f : Nat} (hf : M.stored f) : M.depth f ≤ M.n := by
  unfold depth
  split
  · exact Nat.le_refl _
  · rcases hf with hf | ⟨h1, h2⟩
    · omega
    · obtain ⟨a, b, _⟩ := h.node f (by omega) h1 h2
      exact Nat.le_of_lt (h.ol _ (by omega)).1

theorem depth_lt {M : Mgr} (h : M.WF) {f : Nat} (hf : M.stored f) (h2 : 2 ≤ f) : M.depth f < M.n := by
  unfold depth
  rw [if_neg (by omega)]
  rcases hf with hf | ⟨h1, h3⟩
  · omega
  · obtain ⟨a, b, _⟩ := h.node f (by omega) h1 h3
    exact (h.ol _ (by omega)).1

/-- What is known of a stored node that is no constant. -/
theorem node_of {M : Mgr} (h : M.WF) {f : Nat} (hf : M.stored f) (h2 : 2 ≤ f) :
    0 ≤ (M.nd f).1 ∧ (M.nd f).1 < M.n ∧ M.stored (M.nd f).2.1 ∧ M.stored (M.nd f).2.2 ∧ (M.nd f).2.1 ≠ (M.nd f).2.2 ∧
    M.depth f < M.depth (M.nd f).2.1 ∧ M.depth f < M.depth (M.nd f).2.2 := by
  rcases hf with hf | ⟨h1, h3⟩
  · omega
  · have := h.node f h2 h1 h3
    have hd : M.depth f = M.lev (M.nd f).1.toNat := by unfold depth; rw [if_neg (by omega)]
    rw [hd]; exact this

theorem semF_fuel {M : Mgr} (h : M.WF) (a : Nat → Bool) : ∀ (k k' f : Nat), M.stored f → M.n - M.depth f < k → M.n - M.depth f < k' → M.semF k f a = M.semF k' f a
  | 0, _, _, _, h1, _ => by omega
  | _ + 1, 0, _, _, _, h2 => by omega
  | k + 1, k' + 1, f, hf, h1, h2 => by
    unfold semF
    by_cases h3 : f < 2
    · simp [h3]
    · obtain ⟨_, _, sl, sh, _, dl, dh⟩ := node_of h hf (by omega)
      have := depth_le h sl
      have := depth_le h sh
      rw [if_neg h3, if_neg h3, semF_fuel h a k k' _ sl (by omega) (by omega), semF_fuel h a k k' _ sh (by omega) (by omega)]

theorem sem_const (M : Mgr) (f : Nat) (a : Nat → Bool) (h : f < 2) : M.sem f a = (f == 1) := by
  unfold sem semF; rw [if_pos h]

@[simp] theorem sem_zero (M : Mgr) (a : Nat → Bool) : M.sem 0 a = false := by rw [sem_const M 0 a (by omega)]; rfl
@[simp] theorem sem_one (M : Mgr) (a : Nat → Bool) : M.sem 1 a = true := by rw [sem_const M 1 a (by omega)]; rfl

theorem sem_node {M : Mgr} (h : M.WF) {f : Nat} (hf : M.stored f) (h2 : 2 ≤ f) (a : Nat → Bool) :
    M.sem f a = if a (M.nd f).1.toNat then M.sem (M.nd f).2.2 a else M.sem (M.nd f).2.1 a := by
  obtain ⟨_, _, sl, sh, _, dl, dh⟩ := node_of h hf h2
  have := depth_le h sl
  have := depth_le h sh
  have e1 : M.sem (M.nd f).2.2 a = M.semF M.n (M.nd f).2.2 a := semF_fuel h a _ _ _ sh (by omega) (by omega)
  have e2 : M.sem (M.nd f).2.1 a = M.semF M.n (M.nd f).2.1 a := semF_fuel h a _ _ _ sl (by omega) (by omega)
  rw [e1, e2]
  show M.semF (M.n + 1) f a = _
  conv => lhs; unfold semF
  rw [if_neg (by omega)]

/-- A function reads only the variables from its level on. -/
theorem sem_agree {M : Mgr} (h : M.WF) : ∀ (k f : Nat), M.stored f → M.n - M.depth f ≤ k → ∀ (a b : Nat → Bool), (∀ v, v < M.n → M.depth f ≤ M.lev v → a v = b v) → M.sem f a = M.sem f b
  | 0, f, hf, hk, a, b, _ => by
    by_cases h2 : f < 2
    · rw [sem_const _ _ _ h2, sem_const _ _ _ h2]
    · have := depth_lt h hf (by omega); omega
  | k + 1, f, hf, hk, a, b, hab => by
    by_cases h2 : f < 2
    · rw [sem_const _ _ _ h2, sem_const _ _ _ h2]
    · obtain ⟨v0, v1, sl, sh, _, dl, dh⟩ := node_of h hf (by omega)
      have hd : M.depth f = M.lev (M.nd f).1.toNat := by unfold depth; rw [if_neg (by omega)]
      rw [sem_node h hf (by omega), sem_node h hf (by omega), hab (M.nd f).1.toNat (by omega) (by omega),
        sem_agree h k _ sl (by omega) a b (fun v h1 h3 => hab v h1 (by omega)), sem_agree h k _ sh (by omega) a b (fun v h1 h3 => hab v h1 (by omega))]

def upd (a : Nat → Bool) (v : Nat) (b : Bool) : Nat → Bool := fun u => if u = v then b else a u

@[simp] theorem upd_same (a : Nat → Bool) (v : Nat) (b : Bool) : upd a v b v = b := by simp [upd]
theorem upd_other (a : Nat → Bool) (v u : Nat) (b : Bool) (h : u ≠ v) : upd a v b u = a u := by simp [upd, h]

theorem sem_upd {M : Mgr} (h : M.WF) {f : Nat} (hf : M.stored f) (a : Nat → Bool) (v : Nat) (b : Bool) (hv : M.lev v < M.depth f) : M.sem f (upd a v b) = M.sem f a :=
  sem_agree h _ f hf (Nat.le_refl _) _ _ (fun u _ h2 => upd_other a v u b (fun e => by subst e; omega))

/-- The children are the cofactors. -/
theorem sem_lo {M : Mgr} (h : M.WF) {f : Nat} (hf : M.stored f) (h2 : 2 ≤ f) (a : Nat → Bool) : M.sem (M.nd f).2.1 a = M.sem f (upd a (M.nd f).1.toNat false) := by
  obtain ⟨_, _, sl, sh, _, dl, dh⟩ := node_of h hf h2
  have hd : M.depth f = M.lev (M.nd f).1.toNat := by unfold depth; rw [if_neg (by omega)]
  rw [sem_node h hf h2, upd_same]
  simp only [Bool.false_eq_true, if_false]
  rw [sem_upd h sl _ _ _ (by omega)]

theorem sem_hi {M : Mgr} (h : M.WF) {f : Nat} (hf : M.stored f) (h2 : 2 ≤ f) (a : Nat → Bool) : M.sem (M.nd f).2.2 a = M.sem f (upd a (M.nd f).1.toNat true) := by
  obtain ⟨_, _, sl, sh, _, dl, dh⟩ := node_of h hf h2
  have hd : M.depth f = M.lev (M.nd f).1.toNat := by unfold depth; rw [if_neg (by omega)]
  rw [sem_node h hf h2, upd_same]
  simp only [if_true]
  rw [sem_upd h sh _ _ _ (by omega)]

theorem lev_inj {M : Mgr} (h : M.WF) {u v : Nat} (hu : u < M.n) (hv : v < M.n) (e : M.lev u = M.lev v) : u = v := by
  rw [← (h.ol u hu).2, ← (h.ol v hv).2, e]

/-- If f reads no variable above level d then .. : a node whose function does not depend on its variable is none. -/
theorem not_indep {M : Mgr} (h : M.WF) (canon : ∀ f g, M.stored f → M.stored g → (∀ a, M.sem f a = M.sem g a) → f = g)
    {f : Nat} (hf : M.stored f) (h2 : 2 ≤ f) (hi : ∀ a, M.sem f (upd a (M.nd f).1.toNat false) = M.sem f (upd a (M.nd f).1.toNat true)) : False := by
  obtain ⟨_, _, sl, sh, ne, _, _⟩ := node_of h hf h2
  exact ne (canon _ _ sl sh (fun a => by rw [sem_lo h hf h2, sem_hi h hf h2, hi a]))

theorem canon_aux {M : Mgr} (h : M.WF) : ∀ (k f g : Nat), M.stored f → M.stored g → (M.n - M.depth f) + (M.n - M.depth g) ≤ k → (∀ a, M.sem f a = M.sem g a) → f = g := by
  intro k
  induction k with
  | zero =>
    intro f g hf hg hk e
    have df : f < 2 := by
      by_cases h2 : f < 2
      · exact h2
      · have := depth_lt h hf (by omega); omega
    have dg : g < 2 := by
      by_cases h2 : g < 2
      · exact h2
      · have := depth_lt h hg (by omega); omega
    have := e (fun _ => false)
    rw [sem_const _ _ _ df, sem_const _ _ _ dg] at this
    have h1 : f = 1 ↔ g = 1 := by
      constructor
      · intro x; subst x; simpa using this.symm
      · intro x; subst x; simpa using this
    omega
  | succ k ih =>
    -- one side: f is a node at a level that g does not reach
    have side : ∀ f g, M.stored f → M.stored g → 2 ≤ f → M.depth f < M.depth g → (M.n - M.depth f) + (M.n - M.depth g) ≤ k + 1 → (∀ a, M.sem f a = M.sem g a) → False := by
      intro f g hf hg h2 hd hk e
      obtain ⟨v0, v1, sl, sh, ne, dl, dh⟩ := node_of h hf h2
      have hdl := depth_le h sl
      have hdh := depth_le h sh
      have hdv : M.depth f = M.lev (M.nd f).1.toNat := by unfold depth; rw [if_neg (by omega)]
      have el : (M.nd f).2.1 = g := ih _ _ sl hg (by omega) (fun a => by rw [sem_lo h hf h2, e, sem_upd h hg _ _ _ (by omega)])
      have eh : (M.nd f).2.2 = g := ih _ _ sh hg (by omega) (fun a => by rw [sem_hi h hf h2, e, sem_upd h hg _ _ _ (by omega)])
      exact ne (el.trans eh.symm)
    intro f g hf hg hk e
    have hfn := depth_le h hf
    have hgn := depth_le h hg
    rcases Nat.lt_trichotomy (M.depth f) (M.depth g) with hlt | heq | hgt
    · have h2 : 2 ≤ f := by
        rcases Nat.lt_or_ge f 2 with h2 | h2
        · have : M.depth f = M.n := by unfold depth; rw [if_pos h2]
          omega
        · exact h2
      exact (side f g hf hg h2 hlt hk e).elim
    · by_cases h2 : f < 2
      · have hd : M.depth f = M.n := by unfold depth; rw [if_pos h2]
        have hg2 : g < 2 := by
          rcases Nat.lt_or_ge g 2 with h3 | h3
          · exact h3
          · have := depth_lt h hg h3; omega
        have := e (fun _ => false)
        rw [sem_const _ _ _ h2, sem_const _ _ _ hg2] at this
        have h1 : f = 1 ↔ g = 1 := by
          constructor
          · intro x; subst x; simpa using this.symm
          · intro x; subst x; simpa using this
        omega
      · have hdl := depth_lt h hf (by omega)
        have hg2 : 2 ≤ g := by
          rcases Nat.lt_or_ge g 2 with h3 | h3
          · have : M.depth g = M.n := by unfold depth; rw [if_pos h3]
            omega
          · exact h3
        obtain ⟨v0, v1, sl, sh, ne, dl, dh⟩ := node_of h hf (by omega)
        obtain ⟨v0', v1', sl', sh', ne', dl', dh'⟩ := node_of h hg hg2
        have hdf : M.depth f = M.lev (M.nd f).1.toNat := by unfold depth; rw [if_neg (by omega)]
        have hdg : M.depth g = M.lev (M.nd g).1.toNat := by unfold depth; rw [if_neg (by omega)]
        have ev : (M.nd f).1.toNat = (M.nd g).1.toNat := lev_inj h (by omega) (by omega) (by omega)
        have q1 := depth_le h sl
        have q2 := depth_le h sh
        have q3 := depth_le h sl'
        have q4 := depth_le h sh'
        have el : (M.nd f).2.1 = (M.nd g).2.1 := ih _ _ sl sl' (by omega) (fun a => by rw [sem_lo h hf (by omega), sem_lo h hg hg2, e, ev])
        have eh : (M.nd f).2.2 = (M.nd g).2.2 := ih _ _ sh sh' (by omega) (fun a => by rw [sem_hi h hf (by omega), sem_hi h hg hg2, e, ev])
        have en : M.nd f = M.nd g := Prod.ext (by omega) (Prod.ext el eh)
        have hfl : f < M.nodes.length ∧ (M.nd f).1 ≠ -1 := hf.resolve_left h2
        have hgl : g < M.nodes.length ∧ (M.nd g).1 ≠ -1 := hg.resolve_left (by omega)
        exact h.inj f g (by omega) hg2 hfl.1 hgl.1 en hfl.2
    · have h2 : 2 ≤ g := by
        rcases Nat.lt_or_ge g 2 with h2 | h2
        · have : M.depth g = M.n := by unfold depth; rw [if_pos h2]
          omega
        · exact h2
      exact (side g f hg hf h2 hgt (by omega) (fun a => (e a).symm)).elim

/-- Two stored functions that are equal are one. -/
theorem canon {M : Mgr} (h : M.WF) {f g : Nat} (hf : M.stored f) (hg : M.stored g) (e : ∀ a, M.sem f a = M.sem g a) : f = g :=
  canon_aux h _ f g hf hg (Nat.le_refl _) e

/-- M' has all that M has stored, under the same numbers. -/
structure Ext (M M' : Mgr) : Prop where
  order : M'.order = M.order
  level : M'.level = M.level
  len : M.nodes.length ≤ M'.nodes.length
  nd : ∀ f, 2 ≤ f → M.stored f → M'.nd f = M.nd f
  vis : ∀ f, M'.vis f = M.vis f

theorem Ext.refl (M : Mgr) : Ext M M := ⟨rfl, rfl, Nat.le_refl _, fun _ _ _ => rfl, fun _ => rfl⟩

theorem Ext.n {M M' : Mgr} (e : Ext M M') : M'.n = M.n := by unfold Mgr.n; rw [e.order]
theorem Ext.lev {M M' : Mgr} (e : Ext M M') (v : Nat) : M'.lev v = M.lev v := by unfold Mgr.lev; rw [e.level]
theorem Ext.ord {M M' : Mgr} (e : Ext M M') (v : Nat) : M'.ord v = M.ord v := by unfold Mgr.ord; rw [e.order]

theorem Ext.stored {M M' : Mgr} (e : Ext M M') {f : Nat} (hf : M.stored f) : M'.stored f := by
  by_cases h2 : f < 2
  · exact .inl h2
  · have := e.nd f (by omega) hf
    rcases hf with hf | ⟨h1, h3⟩
    · omega
    · exact .inr ⟨Nat.lt_of_lt_of_le h1 e.len, by rw [this]; exact h3⟩

theorem Ext.trans {M M' M'' : Mgr} (e : Ext M M') (e' : Ext M' M'') : Ext M M'' :=
  ⟨e'.order.trans e.order, e'.level.trans e.level, Nat.le_trans e.len e'.len, fun f h2 hf => (e'.nd f h2 (e.stored hf)).trans (e.nd f h2 hf), fun f => (e'.vis f).trans (e.vis f)⟩

theorem Ext.depth {M M' : Mgr} (e : Ext M M') {f : Nat} (hf : M.stored f) : M'.depth f = M.depth f := by
  unfold Mgr.depth
  by_cases h2 : f < 2
  · rw [if_pos h2, if_pos h2, e.n]
  · rw [if_neg h2, if_neg h2, e.nd f (by omega) hf, e.lev]

theorem Ext.semF {M M' : Mgr} (h : M.WF) (e : Ext M M') (a : Nat → Bool) : ∀ (k f : Nat), M.stored f → M'.semF k f a = M.semF k f a
  | 0, _, _ => rfl
  | k + 1, f, hf => by
    unfold Mgr.semF
    by_cases h2 : f < 2
    · rw [if_pos h2, if_pos h2]
    · obtain ⟨_, _, sl, sh, _⟩ := node_of h hf (by omega)
      rw [if_neg h2, if_neg h2, e.nd f (by omega) hf, Ext.semF h e a k _ sl, Ext.semF h e a k _ sh]

theorem Ext.sem {M M' : Mgr} (h : M.WF) (e : Ext M M') {f : Nat} (hf : M.stored f) (a : Nat → Bool) : M'.sem f a = M.sem f a := by
  unfold Mgr.sem
  rw [e.n]
  exact e.semF h a _ f hf

/-! ### finding and making nodes -/

def find (M : Mgr) (x : Nd) : Option Nat := (List.range M.nodes.length).find? (fun i => decide (2 ≤ i ∧ M.nd i = x))

theorem find_some {M : Mgr} {x : Nd} {r : Nat} (h : M.find x = some r) : 2 ≤ r ∧ r < M.nodes.length ∧ M.nd r = x := by
  have h1 := List.find?_some h
  have h2 := List.mem_of_find?_eq_some h
  simp at h1 h2
  exact ⟨h1.1, h2, h1.2⟩

theorem find_none {M : Mgr} {x : Nd} (h : M.find x = none) : ∀ r, 2 ≤ r → r < M.nodes.length → M.nd r ≠ x := by
  intro r h2 hr e
  unfold find at h
  rw [List.find?_eq_none] at h
  have := h r (by simpa using hr)
  simp [h2, e] at this

theorem find_eq {M : Mgr} (h : M.WF) {r : Nat} (h2 : 2 ≤ r) (hr : M.stored r) : M.find (M.nd r) = some r := by
  have hr' : r < M.nodes.length ∧ (M.nd r).1 ≠ -1 := hr.resolve_left (by omega)
  cases hx : M.find (M.nd r) with
  | none => exact (find_none hx r h2 hr'.1 rfl).elim
  | some g =>
    obtain ⟨g2, gl, ge⟩ := find_some hx
    rw [h.inj r g h2 g2 hr'.1 gl ge.symm hr'.2]

/-- The function 'node' of the program. -/
def put (M : Mgr) (v lo hi : Nat) : Mgr × Nat :=
  if lo = hi then (M, lo) else
  match M.find ((v : Int), lo, hi) with
  | some r => (M, r)
  | none =>
    match M.free.getLast? with
    | some f => ({ M with nodes := M.nodes.set f ((v : Int), lo, hi), free := M.free.dropLast }, f)
    | none => ({ M with nodes := M.nodes ++ [((v : Int), lo, hi)], shown := M.shown ++ [false] }, M.nodes.length)

/-- A store with one node more, at a place that was free or new. -/
theorem add_wf {M M' : Mgr} (h : M.WF) {v lo hi r : Nat} (hv : v < M.n) (hl : M.stored lo) (hh : M.stored hi) (ne : lo ≠ hi) (dl : M.lev v < M.depth lo) (dh : M.lev v < M.depth hi)
    (hno : ∀ r, 2 ≤ r → r < M.nodes.length → M.nd r ≠ ((v : Int), lo, hi))
    (e1 : M'.order = M.order) (e2 : M'.level = M.level) (hr2 : 2 ≤ r) (hrM : ¬ M.stored r) (hlen : M.nodes.length ≤ M'.nodes.length) (hrl : r < M'.nodes.length)
    (hll : ∀ f, f < M'.nodes.length → f < M.nodes.length ∨ f = r)
    (hnew : M'.nd r = ((v : Int), lo, hi)) (hold : ∀ f, f ≠ r → M'.nd f = M.nd f) (hsh : M'.shown.length = M'.nodes.length) (hvis : ∀ f, M'.vis f = M.vis f)
    (hfr : ∀ f, f ∈ M'.free → f ∈ M.free ∧ f ≠ r) (hfn : M'.free.Nodup) : M'.WF ∧ Ext M M' ∧ M'.stored r := by
  have hn : M'.n = M.n := by unfold Mgr.n; rw [e1]
  have hlev : ∀ u, M'.lev u = M.lev u := fun u => by unfold Mgr.lev; rw [e2]
  have hord : ∀ u, M'.ord u = M.ord u := fun u => by unfold Mgr.ord; rw [e1]
  have he : Ext M M' := ⟨e1, e2, hlen, fun f _ hf => hold f (fun e => hrM (e ▸ hf)), hvis⟩
  have hst : M'.stored r := .inr ⟨hrl, by rw [hnew]; simp⟩
  refine ⟨⟨by rw [e1, e2]; exact h.len, ?_, ?_, Nat.le_trans h.two hlen, ?_, ?_, hsh, ?_, ?_, ?_, ?_, ?_, ?_, hfn⟩, he, hst⟩
  · intro u hu; rw [hlev, hord, hn]; exact h.ol u (hn ▸ hu)
  · intro i hi; rw [hlev, hord, hn]; exact h.lo_ i (hn ▸ hi)
  · rw [hold 0 (by omega)]; exact h.nd0
  · rw [hold 1 (by omega)]; exact h.nd1
  · rw [hvis]; exact h.sh0
  · rw [hvis]; exact h.sh1
  · intro f hf; rw [hvis] at hf; exact he.stored (h.shst f hf)
  · intro f h2 hf hf1
    by_cases e : f = r
    · subst e
      rw [hnew]
      refine ⟨by simp, by rw [hn]; simpa using hv, he.stored hl, he.stored hh, ne, ?_, ?_⟩
      · rw [he.depth hl, hlev]; simpa using dl
      · rw [he.depth hh, hlev]; simpa using dh
    · have hfM : f < M.nodes.length := (hll f hf).resolve_right e
      rw [hold f e] at hf1 ⊢
      obtain ⟨a1, a2, a3, a4, a5, a6, a7⟩ := h.node f h2 hfM hf1
      refine ⟨a1, by rw [hn]; exact a2, he.stored a3, he.stored a4, a5, ?_, ?_⟩
      · rw [he.depth a3, hlev]; exact a6
      · rw [he.depth a4, hlev]; exact a7
  · intro f g f2 g2 hf hg e ev
    by_cases ef : f = r
    · by_cases eg : g = r
      · rw [ef, eg]
      · exfalso
        rw [ef, hnew, hold g eg] at e
        exact hno g g2 ((hll g hg).resolve_right eg) e.symm
    · by_cases eg : g = r
      · exfalso
        rw [eg, hnew, hold f ef] at e
        exact hno f f2 ((hll f hf).resolve_right ef) e
      · rw [hold f ef, hold g eg] at e
        rw [hold f ef] at ev
        exact h.inj f g f2 g2 ((hll f hf).resolve_right ef) ((hll g hg).resolve_right eg) e ev
  · intro f hf
    obtain ⟨a1, a2⟩ := hfr f hf
    obtain ⟨b1, b2, b3⟩ := h.fr f a1
    exact ⟨b1, Nat.lt_of_lt_of_le b2 hlen, by rw [hold f a2]; exact b3⟩

structure PutSpec (M : Mgr) (v lo hi : Nat) (M' : Mgr) (r : Nat) : Prop where
  wf : M'.WF
  ext : Ext M M'
  st : M'.stored r
  sem : ∀ a, M'.sem r a = if a v then M.sem hi a else M.sem lo a
  dep : M.lev v ≤ M'.depth r
  len : M'.nodes.length ≤ M.nodes.length + 1

theorem put_spec {M : Mgr} (h : M.WF) {v lo hi : Nat} (hv : v < M.n) (hl : M.stored lo) (hh : M.stored hi) (dl : M.lev v < M.depth lo) (dh : M.lev v < M.depth hi) :
    PutSpec M v lo hi (M.put v lo hi).1 (M.put v lo hi).2 := by
  unfold put
  by_cases e : lo = hi
  · rw [if_pos e]
    exact ⟨h, .refl M, hl, fun a => by subst e; simp, Nat.le_of_lt dl, by simp⟩
  · rw [if_neg e]
    have fin : ∀ (M' : Mgr) (r : Nat), M'.WF → Ext M M' → M'.stored r → 2 ≤ r → M'.nd r = ((v : Int), lo, hi) → M'.nodes.length ≤ M.nodes.length + 1 → PutSpec M v lo hi M' r := by
      intro M' r hw he hs h2 hn hlen
      refine ⟨hw, he, hs, fun a => ?_, ?_, hlen⟩
      · rw [sem_node hw hs h2, hn]
        simp only [Int.toNat_natCast]
        rw [he.sem h hl, he.sem h hh]
      · unfold depth
        rw [if_neg (by omega), hn, he.lev]; simp
    cases hf : M.find ((v : Int), lo, hi) with
    | some r =>
      obtain ⟨r2, rl, rn⟩ := find_some hf
      exact fin M r h (.refl M) (.inr ⟨rl, by rw [rn]; simp⟩) r2 rn (by simp)
    | none =>
      have hno := find_none hf
      cases hg : M.free.getLast? with
      | some f =>
        have hmem : f ∈ M.free := List.mem_of_getLast? hg
        obtain ⟨f2, fl, fv⟩ := h.fr f hmem
        have hnewnd : ({ M with nodes := M.nodes.set f ((v : Int), lo, hi), free := M.free.dropLast } : Mgr).nd f = ((v : Int), lo, hi) := by simp [nd, fl]
        have hsplit : M.free = M.free.dropLast ++ [f] := by
          rw [List.getLast?_eq_some_iff] at hg
          obtain ⟨ys, hy⟩ := hg
          rw [hy]; simp
        have hnd : (M.free.dropLast ++ [f]).Nodup := hsplit ▸ h.fnd
        obtain ⟨a1, a2, a3⟩ := add_wf (M := M) (M' := { M with nodes := M.nodes.set f ((v : Int), lo, hi), free := M.free.dropLast }) (r := f) h hv hl hh e dl dh hno rfl rfl f2
          (fun hs => by rcases hs with hs | ⟨_, hs⟩ <;> first | omega | exact hs fv) (by simp) (by simpa using fl) (fun g hg => by simp at hg; exact .inl hg) hnewnd
          (fun g hne => by simp [nd, Ne.symm hne]) (by simpa using h.sh) (fun g => rfl)
          (fun g hg => by
            refine ⟨by rw [hsplit]; exact List.mem_append_left _ hg, fun e => ?_⟩
            subst e
            rw [List.nodup_append] at hnd
            exact hnd.2.2 g hg g (by simp) rfl)
          (by rw [List.nodup_append] at hnd; exact hnd.1)
        exact fin _ f a1 a2 a3 f2 hnewnd (by simp)
      | none =>
        have hnewnd : ({ M with nodes := M.nodes ++ [((v : Int), lo, hi)], shown := M.shown ++ [false] } : Mgr).nd M.nodes.length = ((v : Int), lo, hi) := by simp [nd]
        have hfree : M.free = [] := by simpa using hg
        have h2 := h.two
        obtain ⟨a1, a2, a3⟩ := add_wf (M := M) (M' := { M with nodes := M.nodes ++ [((v : Int), lo, hi)], shown := M.shown ++ [false] }) (r := M.nodes.length) h hv hl hh e dl dh hno rfl rfl h2
          (fun hs => by rcases hs with hs | ⟨hs, _⟩ <;> omega) (by simp) (by simp) (fun g hg => by simp at hg; omega) hnewnd
          (fun g hne => by
            simp only [nd, List.getD_eq_getElem?_getD, List.getElem?_append]
            split
            · rfl
            · rw [List.getElem?_eq_none (by simp; omega), List.getElem?_eq_none (by omega)])
          (by simp [h.sh]) (fun g => by
            simp only [vis, List.getD_eq_getElem?_getD, List.getElem?_append]
            split
            · rfl
            · rename_i hh
              rw [List.getElem?_eq_none (l := M.shown) (by omega)]
              by_cases e0 : g - M.shown.length = 0
              · rw [e0]; rfl
              · rw [List.getElem?_eq_none (by simp; omega)])
          (fun g hg => by simp [hfree] at hg) (by simp [hfree])
        exact fin _ _ a1 a2 a3 h2 hnewnd (by simp)

/-- If the function is there already, nothing is made. -/
theorem put_there {M : Mgr} (h : M.WF) {v lo hi r : Nat} (hv : v < M.n) (hl : M.stored lo) (hh : M.stored hi) (dl : M.lev v < M.depth lo) (dh : M.lev v < M.depth hi)
    (hr : M.stored r) (e : ∀ a, M.sem r a = if a v then M.sem hi a else M.sem lo a) : M.put v lo hi = (M, r) := by
  have low : ∀ a, M.sem lo a = M.sem r (upd a v false) := fun a => by rw [e, upd_same]; simp only [Bool.false_eq_true, if_false]; rw [sem_upd h hl _ _ _ dl]
  have high : ∀ a, M.sem hi a = M.sem r (upd a v true) := fun a => by rw [e, upd_same]; simp only [if_true]; rw [sem_upd h hh _ _ _ dh]
  unfold put
  by_cases eq : lo = hi
  · rw [if_pos eq]
    rw [canon h hl hr (fun a => by rw [e a, eq]; simp)]
  · rw [if_neg eq]
    -- the variable of r is v
    have h2 : 2 ≤ r := by
      rcases Nat.lt_or_ge r 2 with h2 | h2
      · exact (eq (canon h hl hh (fun a => by rw [low, high, sem_const _ _ _ h2, sem_const _ _ _ h2]))).elim
      · exact h2
    obtain ⟨v0, v1, sl, sh, ne, rl, rh⟩ := node_of h hr h2
    have hd : M.depth r = M.lev (M.nd r).1.toNat := by unfold depth; rw [if_neg (by omega)]
    have ev : (M.nd r).1.toNat = v := by
      rcases Nat.lt_trichotomy (M.depth r) (M.lev v) with hlt | heq | hgt
      · exfalso
        have hne : v ≠ (M.nd r).1.toNat := fun x => by rw [← x] at hd; omega
        refine ne (canon h sl sh (fun a => ?_))
        rw [sem_lo h hr h2, sem_hi h hr h2, e, e, upd_other _ _ _ _ hne, upd_other _ _ _ _ hne,
          sem_upd h hl _ _ _ (by omega), sem_upd h hl _ _ _ (by omega), sem_upd h hh _ _ _ (by omega), sem_upd h hh _ _ _ (by omega)]
      · exact lev_inj h (by omega) hv (by omega)
      · exact (eq (canon h hl hh (fun a => by rw [low, high, sem_upd h hr _ _ _ hgt, sem_upd h hr _ _ _ hgt]))).elim
    have el : (M.nd r).2.1 = lo := canon h sl hl (fun a => by rw [sem_lo h hr h2, ev, low])
    have eh : (M.nd r).2.2 = hi := canon h sh hh (fun a => by rw [sem_hi h hr h2, ev, high])
    have en : M.nd r = ((v : Int), lo, hi) := Prod.ext (by simp; omega) (Prod.ext el eh)
    rw [← en, find_eq h h2 hr]

/-! ### building a function -/

/-- A function of assignments reads only the variables at level d and beyond. -/
def Reads (M : Mgr) (d : Nat) (F : (Nat → Bool) → Bool) : Prop := ∀ a b : Nat → Bool, (∀ v, v < M.n → d ≤ M.lev v → a v = b v) → F a = F b

def build : Nat → Mgr → ((Nat → Bool) → Bool) → Mgr × Nat
  | 0, M, F => (M, if F (fun _ => false) then 1 else 0)
  | k + 1, M, F =>
    let v := M.ord (M.n - (k + 1))
    let A := build k M (fun a => F (upd a v false))
    let B := build k A.1 (fun a => F (upd a v true))
    B.1.put v A.2 B.2

structure BuildSpec (M : Mgr) (d : Nat) (F : (Nat → Bool) → Bool) (M' : Mgr) (r : Nat) : Prop where
  wf : M'.WF
  ext : Ext M M'
  st : M'.stored r
  sem : ∀ a, M'.sem r a = F a
  dep : d ≤ M'.depth r

theorem Reads.upd {M : Mgr} (h : M.WF) {k : Nat} (hk : k < M.n) {F : (Nat → Bool) → Bool} (hF : M.Reads (M.n - (k + 1)) F) (b : Bool) :
    M.Reads (M.n - k) (fun a => F (Mgr.upd a (M.ord (M.n - (k + 1))) b)) := by
  intro x y hxy
  refine hF _ _ (fun v hv hd => ?_)
  by_cases e : v = M.ord (M.n - (k + 1))
  · subst e; simp
  · rw [upd_other _ _ _ _ e, upd_other _ _ _ _ e]
    refine hxy v hv ?_
    have : M.lev v ≠ M.n - (k + 1) := fun x => e (by rw [← x, (h.ol v hv).2])
    omega

theorem Reads.ext {M M' : Mgr} (e : Ext M M') {d : Nat} {F : (Nat → Bool) → Bool} (h : M.Reads d F) : M'.Reads d F :=
  fun a b hab => h a b (fun v hv hd => hab v (by rw [e.n]; exact hv) (by rw [e.lev]; exact hd))

theorem build_spec : ∀ (k : Nat) (M : Mgr), M.WF → k ≤ M.n → ∀ F, M.Reads (M.n - k) F → BuildSpec M (M.n - k) F (build k M F).1 (build k M F).2
  | 0, M, h, _, F, hF => by
    have hc : ∀ a, F a = F (fun _ => false) := fun a => hF _ _ (fun v hv hd => by have := (h.ol v hv).1; omega)
    refine ⟨h, .refl M, .inl ?_, fun a => ?_, ?_⟩
    · simp only [build]; split <;> omega
    · simp only [build]; rw [hc a]; split <;> simp_all
    · simp only [build, depth]; split <;> simp
  | k + 1, M, h, hk, F, hF => by
    have hlv := h.lo_ (M.n - (k + 1)) (by omega)
    have s1 := build_spec k M h (by omega) _ (Reads.upd h (by omega) hF false)
    have hF2 : M.Reads (M.n - k) (fun a => F (upd a (M.ord (M.n - (k + 1))) true)) := Reads.upd h (by omega) hF true
    have s2 := build_spec k (build k M (fun a => F (upd a (M.ord (M.n - (k + 1))) false))).1 s1.wf (by rw [s1.ext.n]; omega) (fun a => F (upd a (M.ord (M.n - (k + 1))) true)) (by rw [s1.ext.n]; exact Reads.ext s1.ext hF2)
    show BuildSpec M (M.n - (k + 1)) F (Mgr.put _ _ _ _).1 (Mgr.put _ _ _ _).2
    generalize hA : build k M (fun a => F (upd a (M.ord (M.n - (k + 1))) false)) = A at *
    generalize hB : build k A.1 (fun a => F (upd a (M.ord (M.n - (k + 1))) true)) = B at *
    have hn2 : B.1.n = M.n := by rw [s2.ext.n, s1.ext.n]
    have hlev2 : ∀ v, B.1.lev v = M.lev v := fun v => by rw [s2.ext.lev, s1.ext.lev]
    have d1 : B.1.depth A.2 = A.1.depth A.2 := s2.ext.depth s1.st
    have q1 := s1.dep
    have q2 := s2.dep
    rw [s1.ext.n] at q2
    have m := put_spec s2.wf (v := M.ord (M.n - (k + 1))) (lo := A.2) (hi := B.2) (by rw [hn2]; exact hlv.1) (s2.ext.stored s1.st) s2.st (by rw [hlev2, hlv.2, d1]; omega) (by rw [hlev2, hlv.2]; omega)
    refine ⟨m.wf, s1.ext.trans (s2.ext.trans m.ext), m.st, fun a => ?_, ?_⟩
    · rw [m.sem, s2.sem, s2.ext.sem s1.wf s1.st, s1.sem]
      have hu : ∀ b, a (M.ord (M.n - (k + 1))) = b → F (upd a (M.ord (M.n - (k + 1))) b) = F a := by
        intro b hb
        congr 1
        funext u
        by_cases e : u = M.ord (M.n - (k + 1))
        · subst e; simp [hb]
        · rw [upd_other _ _ _ _ e]
      cases hb : a (M.ord (M.n - (k + 1)))
      · simpa using hu false hb
      · simpa using hu true hb
    · have := m.dep
      rw [hlev2, hlv.2] at this
      exact this

/-- What is there already is not made anew. -/
theorem build_there : ∀ (k : Nat) (M : Mgr), M.WF → k ≤ M.n → ∀ F, M.Reads (M.n - k) F → ∀ r, M.stored r → (∀ a, M.sem r a = F a) → build k M F = (M, r)
  | 0, M, h, hk, F, hF, r, hr, e => by
    have s := build_spec 0 M h (by omega) F hF
    have e1 : (build 0 M F).1 = M := rfl
    have : (build 0 M F).2 = r := canon (M := M) h s.st hr (fun a => by have := s.sem a; rw [e1] at this; rw [this, e])
    rw [← this]; rfl
  | k + 1, M, h, hk, F, hF, r, hr, e => by
    have hlv := h.lo_ (M.n - (k + 1)) (by omega)
    have hF1 := Reads.upd h (show k < M.n by omega) hF false
    have hF2 := Reads.upd h (show k < M.n by omega) hF true
    -- the cofactors are there
    have cof : ∀ b, ∃ c, M.stored c ∧ ∀ a, M.sem c a = F (upd a (M.ord (M.n - (k + 1))) b) := by
      intro b
      by_cases h2 : r < 2
      · exact ⟨r, hr, fun a => by rw [← e, sem_const _ _ _ h2, sem_const _ _ _ h2]⟩
      · obtain ⟨v0, v1, sl, sh, ne, rl, rh⟩ := node_of h hr (by omega)
        have hd : M.depth r = M.lev (M.nd r).1.toNat := by unfold depth; rw [if_neg (by omega)]
        rcases Nat.lt_trichotomy (M.depth r) (M.n - (k + 1)) with hlt | heq | hgt
        · exfalso
          refine ne (canon h sl sh (fun a => ?_))
          rw [sem_lo h hr (by omega), sem_hi h hr (by omega), e, e]
          refine hF _ _ (fun v hv hdv => ?_)
          have : v ≠ (M.nd r).1.toNat := fun x => by subst x; omega
          rw [upd_other _ _ _ _ this, upd_other _ _ _ _ this]
        · have ev : (M.nd r).1.toNat = M.ord (M.n - (k + 1)) := by rw [← heq, hd, (h.ol _ (by omega)).2]
          cases b
          · exact ⟨_, sl, fun a => by rw [sem_lo h hr (by omega), e, ev]⟩
          · exact ⟨_, sh, fun a => by rw [sem_hi h hr (by omega), e, ev]⟩
        · exact ⟨r, hr, fun a => by rw [← e, sem_upd h hr _ _ _ (by rw [hlv.2]; exact hgt)]⟩
    obtain ⟨c0, s0, e0⟩ := cof false
    obtain ⟨c1, s1, e1⟩ := cof true
    have b0 := build_there k M h (by omega) _ hF1 c0 s0 e0
    have b1 := build_there k M h (by omega) _ hF2 c1 s1 e1
    have p0 := build_spec k M h (by omega) _ hF1
    have p1 := build_spec k M h (by omega) _ hF2
    rw [b0] at p0
    rw [b1] at p1
    have q0 := p0.dep
    have q1 := p1.dep
    simp only at q0 q1
    unfold build
    simp only [b0, b1]
    refine put_there h hlv.1 s0 s1 (by omega) (by omega) hr (fun a => ?_)
    have hu : ∀ b, a (M.ord (M.n - (k + 1))) = b → F (upd a (M.ord (M.n - (k + 1))) b) = F a := by
      intro b hb
      congr 1
      funext u
      by_cases e : u = M.ord (M.n - (k + 1))
      · subst e; simp [hb]
      · rw [upd_other _ _ _ _ e]
    rw [e, e0, e1]
    cases hb : a (M.ord (M.n - (k + 1)))
    · simpa using (hu false hb).symm
    · simpa using (hu true hb).symm

/-- A level of which F does not read is passed over. -/
theorem build_skip {k : Nat} {M : Mgr} (h : M.WF) (hk : k + 1 ≤ M.n) {F : (Nat → Bool) → Bool} (hF : M.Reads (M.n - k) F) : build (k + 1) M F = build k M F := by
  have hlv := h.lo_ (M.n - (k + 1)) (by omega)
  have hF' : M.Reads (M.n - (k + 1)) F := fun a b hab => hF a b (fun v hv hd => hab v hv (by omega))
  have hsame : ∀ b a, F (upd a (M.ord (M.n - (k + 1))) b) = F a := by
    intro b a
    refine hF _ _ (fun v hv hd => upd_other _ _ _ _ (fun e => ?_))
    subst e
    rw [hlv.2] at hd
    omega
  have s1 := build_spec k M h (by omega) F hF
  have e0 : (fun a => F (upd a (M.ord (M.n - (k + 1))) false)) = F := funext (hsame false)
  have e1 : (fun a => F (upd a (M.ord (M.n - (k + 1))) true)) = F := funext (hsame true)
  have b1 := build_there k (build k M F).1 s1.wf (by rw [s1.ext.n]; omega) F (by rw [s1.ext.n]; exact Reads.ext s1.ext hF) (build k M F).2 s1.st s1.sem
  conv => lhs; unfold build
  simp only [e0, e1, b1]
  unfold put
  simp

theorem build_skips {k : Nat} {M : Mgr} (h : M.WF) : ∀ (j : Nat), k + j ≤ M.n → ∀ {F : (Nat → Bool) → Bool}, M.Reads (M.n - k) F → build (k + j) M F = build k M F
  | 0, _, _, _ => rfl
  | j + 1, hk, F, hF => by
    show build (k + j + 1) M F = _
    rw [build_skip h (by omega) (F := F) (fun a b hab => hF a b (fun v hv hd => hab v hv (by omega)))]
    exact build_skips h j (by omega) hF

end Mgr
end Go.Proofs.YtgglkldoclejaaaDoor
