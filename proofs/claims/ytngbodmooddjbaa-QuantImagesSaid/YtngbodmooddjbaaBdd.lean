/-
  Plain mathematics: functions of the number of true variables, and the sizes of some of them.
-/

namespace Go.Proofs.Ytngbodmooddjbaa

/-- A node: its variable (-1: none), its children. -/
abbrev Nd := Int × Nat × Nat

structure Mgr where
  order : List Nat
  level : List Nat
  nodes : List Nd
  shown : List Bool
  free : List Nat

namespace Mgr

def n (M : Mgr) : Nat := M.order.length
def nd (M : Mgr) (f : Nat) : Nd := M.nodes.getD f (-1, 0, 0)
def lev (M : Mgr) (v : Nat) : Nat := M.level.getD v 0
def ord (M : Mgr) (i : Nat) : Nat := M.order.getD i 0
def stored (M : Mgr) (f : Nat) : Prop := f < 2 ∨ (f < M.nodes.length ∧ (M.nd f).1 ≠ -1)
def depth (M : Mgr) (f : Nat) : Nat := if f < 2 then M.n else M.lev (M.nd f).1.toNat
def vis (M : Mgr) (f : Nat) : Bool := M.shown.getD f false

structure WF (M : Mgr) : Prop where
  len : M.level.length = M.order.length
  ol : ∀ v, v < M.n → M.lev v < M.n ∧ M.ord (M.lev v) = v
  lo_ : ∀ i, i < M.n → M.ord i < M.n ∧ M.lev (M.ord i) = i
  two : 2 ≤ M.nodes.length
  nd0 : M.nd 0 = (-1, 0, 0)
  nd1 : M.nd 1 = (-1, 0, 0)
  sh : M.shown.length = M.nodes.length
  sh0 : M.vis 0 = true
  sh1 : M.vis 1 = true
  shst : ∀ f, M.vis f = true → M.stored f
  node : ∀ f, 2 ≤ f → f < M.nodes.length → (M.nd f).1 ≠ -1 →
    0 ≤ (M.nd f).1 ∧ (M.nd f).1 < M.n ∧ M.stored (M.nd f).2.1 ∧ M.stored (M.nd f).2.2 ∧ (M.nd f).2.1 ≠ (M.nd f).2.2 ∧
    M.lev (M.nd f).1.toNat < M.depth (M.nd f).2.1 ∧ M.lev (M.nd f).1.toNat < M.depth (M.nd f).2.2
  inj : ∀ f g, 2 ≤ f → 2 ≤ g → f < M.nodes.length → g < M.nodes.length → M.nd f = M.nd g → (M.nd f).1 ≠ -1 → f = g
  fr : ∀ f, f ∈ M.free → 2 ≤ f ∧ f < M.nodes.length ∧ (M.nd f).1 = -1
  fnd : M.free.Nodup

def semF (M : Mgr) : Nat → Nat → (Nat → Bool) → Bool
  | 0, f, _ => f == 1
  | k + 1, f, a => if f < 2 then f == 1 else if a (M.nd f).1.toNat then semF M k (M.nd f).2.2 a else semF M k (M.nd f).2.1 a

def sem (M : Mgr) (f : Nat) (a : Nat → Bool) : Bool := M.semF (M.n + 1) f a

theorem depth_le {M : Mgr} (h : M.WF) {f : Nat} (hf : M.stored f) : M.depth f ≤ M.n := by
  unfold depth
  split
  · exact Nat.le_refl _
  · rcases hf with hf | ⟨h1, h2⟩
    · omega
    · obtain ⟨a, b, _⟩ := h.node f (by omega) h1 h2
      exact Nat.le_of_lt (h.ol _ (by omega)).1

theorem depth_lt {M : Mgr} (h : M.WF) {f : Nat} (hf : M.stored f) (h2 : 2 ≤ f) : M.depth f < M.n := by
  unfold depth
  rw [if_neg (by omega)]
  rcases hf with hf | ⟨h1, h3⟩
  · omega
  · obtain ⟨a, b, _⟩ := h.node f (by omega) h1 h3
    exact (h.ol _ (by omega)).1

/-- What is known of a stored node that is no constant. -/
theorem node_of {M : Mgr} (h : M.WF) {f : Nat} (hf : M.stored f) (h2 : 2 ≤ f) :
    0 ≤ (M.nd f).1 ∧ (M.nd f).1 < M.n ∧ M.stored (M.nd f).2.1 ∧ M.stored (M.nd f).2.2 ∧ (M.nd f).2.1 ≠ (M.nd f).2.2 ∧
    M.depth f < M.depth (M.nd f).2.1 ∧ M.depth f < M.depth (M.nd f).2.2 := by
  rcases hf with hf | ⟨h1, h3⟩
  · omega
  · have := h.node f h2 h1 h3
    have hd : M.depth f = M.lev (M.nd f).1.toNat := by unfold depth; rw [if_neg (by omega)]
    rw [hd]; exact this

theorem semF_fuel {M : Mgr} (h : M.WF) (a : Nat → Bool) : ∀ (k k' f : Nat), M.stored f → M.n - M.depth f < k → M.n - M.depth f < k' → M.semF k f a = M.semF k' f a
  | 0, _, _, _, h1, _ => by omega
  | _ + 1, 0, _, _, _, h2 => by omega
  | k + 1, k' + 1, f, hf, h1, h2 => by
    unfold semF
    by_cases h3 : f < 2
    · simp [h3]
    · obtain ⟨_, _, sl, sh, _, dl, dh⟩ := node_of h hf (by omega)
      have := depth_le h sl
      have := depth_le h sh
      rw [if_neg h3, if_neg h3, semF_fuel h a k k' _ sl (by omega) (by omega), semF_fuel h a k k' _ sh (by omega) (by omega)]

theorem sem_const (M : Mgr) (f : Nat) (a : Nat → Bool) (h : f < 2) : M.sem f a = (f == 1) := by
  unfold sem semF; rw [if_pos h]

@[simp] theorem sem_zero (M : Mgr) (a : Nat → Bool) : M.sem 0 a = false := by rw [sem_const M 0 a (by omega)]; rfl
@[simp] theorem sem_one (M : Mgr) (a : Nat → Bool) : M.sem 1 a = true := by rw [sem_const M 1 a (by omega)]; rfl

theorem sem_node {M : Mgr} (h : M.WF) {f : Nat} (hf : M.stored f) (h2 : 2 ≤ f) (a : Nat → Bool) :
    M.sem f a = if a (M.nd f).1.toNat then M.sem (M.nd f).2.2 a else M.sem (M.nd f).2.1 a := by
  obtain ⟨_, _, sl, sh, _, dl, dh⟩ := node_of h hf h2
  have := depth_le h sl
  have := depth_le h sh
  have e1 : M.sem (M.nd f).2.2 a = M.semF M.n (M.nd f).2.2 a := semF_fuel h a _ _ _ sh (by omega) (by omega)
  have e2 : M.sem (M.nd f).2.1 a = M.semF M.n (M.nd f).2.1 a := semF_fuel h a _ _ _ sl (by omega) (by omega)
  rw [e1, e2]
  show M.semF (M.n + 1) f a = _
  conv => lhs; unfold semF
  rw [if_neg (by omega)]

/-- A function reads only the variables from its level on. -/
theorem sem_agree {M : Mgr} (h : M.WF) : ∀ (k f : Nat), M.stored f → M.n - M.depth f ≤ k → ∀ (a b : Nat → Bool), (∀ v, v < M.n → M.depth f ≤ M.lev v → a v = b v) → M.sem f a = M.sem f b
  | 0, f, hf, hk, a, b, _ => by
    by_cases h2 : f < 2
    · rw [sem_const _ _ _ h2, sem_const _ _ _ h2]
    · have := depth_lt h hf (by omega); omega
  | k + 1, f, hf, hk, a, b, hab => by
    by_cases h2 : f < 2
    · rw [sem_const _ _ _ h2, sem_const _ _ _ h2]
    · obtain ⟨v0, v1, sl, sh, _, dl, dh⟩ := node_of h hf (by omega)
      have hd : M.depth f = M.lev (M.nd f).1.toNat := by unfold depth; rw [if_neg (by omega)]
      rw [sem_node h hf (by omega), sem_node h hf (by omega), hab (M.nd f).1.toNat (by omega) (by omega),
        sem_agree h k _ sl (by omega) a b (fun v h1 h3 => hab v h1 (by omega)), sem_agree h k _ sh (by omega) a b (fun v h1 h3 => hab v h1 (by omega))]

def upd (a : Nat → Bool) (v : Nat) (b : Bool) : Nat → Bool := fun u => if u = v then b else a u

@[simp] theorem upd_same (a : Nat → Bool) (v : Nat) (b : Bool) : upd a v b v = b := by simp [upd]
theorem upd_other (a : Nat → Bool) (v u : Nat) (b : Bool) (h : u ≠ v) : upd a v b u = a u := by simp [upd, h]

theorem sem_upd {M : Mgr} (h : M.WF) {f : Nat} (hf : M.stored f) (a : Nat → Bool) (v : Nat) (b : Bool) (hv : M.lev v < M.depth f) : M.sem f (upd a v b) = M.sem f a :=
  sem_agree h _ f hf (Nat.le_refl _) _ _ (fun u _ h2 => upd_other a v u b (fun e => by subst e; omega))

/-- The children are the cofactors. -/
theorem sem_lo {M : Mgr} (h : M.WF) {f : Nat} (hf : M.stored f) (h2 : 2 ≤ f) (a : Nat → Bool) : M.sem (M.nd f).2.1 a = M.sem f (upd a (M.nd f).1.toNat false) := by
  obtain ⟨_, _, sl, sh, _, dl, dh⟩ := node_of h hf h2
  have hd : M.depth f = M.lev (M.nd f).1.toNat := by unfold depth; rw [if_neg (by omega)]
  rw [sem_node h hf h2, upd_same]
  simp only [Bool.false_eq_true, if_false]
  rw [sem_upd h sl _ _ _ (by omega)]

theorem sem_hi {M : Mgr} (h : M.WF) {f : Nat} (hf : M.stored f) (h2 : 2 ≤ f) (a : Nat → Bool) : M.sem (M.nd f).2.2 a = M.sem f (upd a (M.nd f).1.toNat true) := by
  obtain ⟨_, _, sl, sh, _, dl, dh⟩ := node_of h hf h2
  have hd : M.depth f = M.lev (M.nd f).1.toNat := by unfold depth; rw [if_neg (by omega)]
  rw [sem_node h hf h2, upd_same]
  simp only [if_true]
  rw [sem_upd h sh _ _ _ (by omega)]

theorem lev_inj {M : Mgr} (h : M.WF) {u v : Nat} (hu : u < M.n) (hv : v < M.n) (e : M.lev u = M.lev v) : u = v := by
  rw [← (h.ol u hu).2, ← (h.ol v hv).2, e]

/-- If f reads no variable above level d then .. : a node whose function does not depend on its variable is none. -/
theorem not_indep {M : Mgr} (h : M.WF) (canon : ∀ f g, M.stored f → M.stored g → (∀ a, M.sem f a = M.sem g a) → f = g)
    {f : Nat} (hf : M.stored f) (h2 : 2 ≤ f) (hi : ∀ a, M.sem f (upd a (M.nd f).1.toNat false) = M.sem f (upd a (M.nd f).1.toNat true)) : False := by
  obtain ⟨_, _, sl, sh, ne, _, _⟩ := node_of h hf h2
  exact ne (canon _ _ sl sh (fun a => by rw [sem_lo h hf h2, sem_hi h hf h2, hi a]))

theorem canon_aux {M : Mgr} (h : M.WF) : ∀ (k f g : Nat), M.stored f → M.stored g → (M.n - M.depth f) + (M.n - M.depth g) ≤ k → (∀ a, M.sem f a = M.sem g a) → f = g := by
  intro k
  induction k with
  | zero =>
    intro f g hf hg hk e
    have df : f < 2 := by
      by_cases h2 : f < 2
      · exact h2
      · have := depth_lt h hf (by omega); omega
    have dg : g < 2 := by
      by_cases h2 : g < 2
      · exact h2
      · have := depth_lt h hg (by omega); omega
    have := e (fun _ => false)
    rw [sem_const _ _ _ df, sem_const _ _ _ dg] at this
    have h1 : f = 1 ↔ g = 1 := by
      constructor
      · intro x; subst x; simpa using this.symm
      · intro x; subst x; simpa using this
    omega
  | succ k ih =>
    -- one side: f is a node at a level that g does not reach
    have side : ∀ f g, M.stored f → M.stored g → 2 ≤ f → M.depth f < M.depth g → (M.n - M.depth f) + (M.n - M.depth g) ≤ k + 1 → (∀ a, M.sem f a = M.sem g a) → False := by
      intro f g hf hg h2 hd hk e
      obtain ⟨v0, v1, sl, sh, ne, dl, dh⟩ := node_of h hf h2
      have hdl := depth_le h sl
      have hdh := depth_le h sh
      have hdv : M.depth f = M.lev (M.nd f).1.toNat := by unfold depth; rw [if_neg (by omega)]
      have el : (M.nd f).2.1 = g := ih _ _ sl hg (by omega) (fun a => by rw [sem_lo h hf h2, e, sem_upd h hg _ _ _ (by omega)])
      have eh : (M.nd f).2.2 = g := ih _ _ sh hg (by omega) (fun a => by rw [sem_hi h hf h2, e, sem_upd h hg _ _ _ (by omega)])
      exact ne (el.trans eh.symm)
    intro f g hf hg hk e
    have hfn := depth_le h hf
    have hgn := depth_le h hg
    rcases Nat.lt_trichotomy (M.depth f) (M.depth g) with hlt | heq | hgt
    · have h2 : 2 ≤ f := by
        rcases Nat.lt_or_ge f 2 with h2 | h2
        · have : M.depth f = M.n := by unfold depth; rw [if_pos h2]
          omega
        · exact h2
      exact (side f g hf hg h2 hlt hk e).elim
    · by_cases h2 : f < 2
      · have hd : M.depth f = M.n := by unfold depth; rw [if_pos h2]
        have hg2 : g < 2 := by
          rcases Nat.lt_or_ge g 2 with h3 | h3
          · exact h3
          · have := depth_lt h hg h3; omega
        have := e (fun _ => false)
        rw [sem_const _ _ _ h2, sem_const _ _ _ hg2] at this
        have h1 : f = 1 ↔ g = 1 := by
          constructor
          · intro x; subst x; simpa using this.symm
          · intro x; subst x; simpa using this
        omega
      · have hdl := depth_lt h hf (by omega)
        have hg2 : 2 ≤ g := by
          rcases Nat.lt_or_ge g 2 with h3 | h3
          · have : M.depth g = M.n := by unfold depth; rw [if_pos h3]
            omega
          · exact h3
        obtain ⟨v0, v1, sl, sh, ne, dl, dh⟩ := node_of h hf (by omega)
        obtain ⟨v0', v1', sl', sh', ne', dl', dh'⟩ := node_of h hg hg2
        have hdf : M.depth f = M.lev (M.nd f).1.toNat := by unfold depth; rw [if_neg (by omega)]
        have hdg : M.depth g = M.lev (M.nd g).1.toNat := by unfold depth; rw [if_neg (by omega)]
        have ev : (M.nd f).1.toNat = (M.nd g).1.toNat := lev_inj h (by omega) (by omega) (by omega)
        have q1 := depth_le h sl
        have q2 := depth_le h sh
        have q3 := depth_le h sl'
        have q4 := depth_le h sh'
        have el : (M.nd f).2.1 = (M.nd g).2.1 := ih _ _ sl sl' (by omega) (fun a => by rw [sem_lo h hf (by omega), sem_lo h hg hg2, e, ev])
        have eh : (M.nd f).2.2 = (M.nd g).2.2 := ih _ _ sh sh' (by omega) (fun a => by rw [sem_hi h hf (by omega), sem_hi h hg hg2, e, ev])
        have en : M.nd f = M.nd g := Prod.ext (by omega) (Prod.ext el eh)
        have hfl : f < M.nodes.length ∧ (M.nd f).1 ≠ -1 := hf.resolve_left h2
        have hgl : g < M.nodes.length ∧ (M.nd g).1 ≠ -1 := hg.resolve_left (by omega)
        exact h.inj f g (by omega) hg2 hfl.1 hgl.1 en hfl.2
    · have h2 : 2 ≤ g := by
        rcases Nat.lt_or_ge g 2 with h2 | h2
        · have : M.depth g = M.n := by unfold depth; rw [if_pos h2]
          omega
        · exact h2
      exact (side g f hg hf h2 hgt (by omega) (fun a => (e a).symm)).elim

/-- Two stored functions that are equal are one. -/
theorem canon {M : Mgr} (h : M.WF) {f g : Nat} (hf : M.stored f) (hg : M.stored g) (e : ∀ a, M.sem f a = M.sem g a) : f = g :=
  canon_aux h _ f g hf hg (Nat.le_refl _) e

/-- M' has all that M has stored, under the same numbers. -/
structure Ext (M M' : Mgr) : Prop where
  order : M'.order = M.order
  level : M'.level = M.level
  len : M.nodes.length ≤ M'.nodes.length
  nd : ∀ f, 2 ≤ f → M.stored f → M'.nd f = M.nd f
  vis : ∀ f, M'.vis f = M.vis f

theorem Ext.refl (M : Mgr) : Ext M M := ⟨rfl, rfl, Nat.le_refl _, fun _ _ _ => rfl, fun _ => rfl⟩

theorem Ext.n {M M' : Mgr} (e : Ext M M') : M'.n = M.n := by unfold Mgr.n; rw [e.order]
theorem Ext.lev {M M' : Mgr} (e : Ext M M') (v : Nat) : M'.lev v = M.lev v := by unfold Mgr.lev; rw [e.level]
theorem Ext.ord {M M' : Mgr} (e : Ext M M') (v : Nat) : M'.ord v = M.ord v := by unfold Mgr.ord; rw [e.order]

theorem Ext.stored {M M' : Mgr} (e : Ext M M') {f : Nat} (hf : M.stored f) : M'.stored f := by
  by_cases h2 : f < 2
  · exact .inl h2
  · have := e.nd f (by omega) hf
    rcases hf with hf | ⟨h1, h3⟩
    · omega
    · exact .inr ⟨Nat.lt_of_lt_of_le h1 e.len, by rw [this]; exact h3⟩

theorem Ext.trans {M M' M'' : Mgr} (e : Ext M M') (e' : Ext M' M'') : Ext M M'' :=
  ⟨e'.order.trans e.order, e'.level.trans e.level, Nat.le_trans e.len e'.len, fun f h2 hf => (e'.nd f h2 (e.stored hf)).trans (e.nd f h2 hf), fun f => (e'.vis f).trans (e.vis f)⟩

theorem Ext.depth {M M' : Mgr} (e : Ext M M') {f : Nat} (hf : M.stored f) : M'.depth f = M.depth f := by
  unfold Mgr.depth
  by_cases h2 : f < 2
  · rw [if_pos h2, if_pos h2, e.n]
  · rw [if_neg h2, if_neg h2, e.nd f (by omega) hf, e.lev]

theorem Ext.semF {M M' : Mgr} (h : M.WF) (e : Ext M M') (a : Nat → Bool) : ∀ (k f : Nat), M.stored f → M'.semF k f a = M.semF k f a
  | 0, _, _ => rfl
  | k + 1, f, hf => by
    unfold Mgr.semF
    by_cases h2 : f < 2
    · rw [if_pos h2, if_pos h2]
    · obtain ⟨_, _, sl, sh, _⟩ := node_of h hf (by omega)
      rw [if_neg h2, if_neg h2, e.nd f (by omega) hf, Ext.semF h e a k _ sl, Ext.semF h e a k _ sh]

theorem Ext.sem {M M' : Mgr} (h : M.WF) (e : Ext M M') {f : Nat} (hf : M.stored f) (a : Nat → Bool) : M'.sem f a = M.sem f a := by
  unfold Mgr.sem
  rw [e.n]
  exact e.semF h a _ f hf

/-! ### finding and making nodes -/

def find (M : Mgr) (x : Nd) : Option Nat := (List.range M.nodes.length).find? (fun i => decide (2 ≤ i ∧ M.nd i = x))

theorem find_some {M : Mgr} {x : Nd} {r : Nat} (h : M.find x = some r) : 2 ≤ r ∧ r < M.nodes.length ∧ M.nd r = x := by
  have h1 := List.find?_some h
  have h2 := List.mem_of_find?_eq_some h
  simp at h1 h2
  exact ⟨h1.1, h2, h1.2⟩

theorem find_none {M : Mgr} {x : Nd} (h : M.find x = none) : ∀ r, 2 ≤ r → r < M.nodes.length → M.nd r ≠ x := by
  intro r h2 hr e
  unfold find at h
  rw [List.find?_eq_none] at h
  have := h r (by simpa using hr)
  simp [h2, e] at this

theorem find_eq {M : Mgr} (h : M.WF) {r : Nat} (h2 : 2 ≤ r) (hr : M.stored r) : M.find (M.nd r) = some r := by
  have hr' : r < M.nodes.length ∧ (M.nd r).1 ≠ -1 := hr.resolve_left (by omega)
  cases hx : M.find (M.nd r) with
  | none => exact (find_none hx r h2 hr'.1 rfl).elim
  | some g =>
    obtain ⟨g2, gl, ge⟩ := find_some hx
    rw [h.inj r g h2 g2 hr'.1 gl ge.symm hr'.2]

/-- The function 'node' of the program. -/
def put (M : Mgr) (v lo hi : Nat) : Mgr × Nat :=
  if lo = hi then (M, lo) else
  match M.find ((v : Int), lo, hi) with
  | some r => (M, r)
  | none =>
    match M.free.getLast? with
    | some f => ({ M with nodes := M.nodes.set f ((v : Int), lo, hi), free := M.free.dropLast }, f)
    | none => ({ M with nodes := M.nodes ++ [((v : Int), lo, hi)], shown := M.shown ++ [false] }, M.nodes.length)

/-- A store with one node more, at a place that was free or new. -/
theorem add_wf {M M' : Mgr} (h : M.WF) {v lo hi r : Nat} (hv : v < M.n) (hl : M.stored lo) (hh : M.stored hi) (ne : lo ≠ hi) (dl : M.lev v < M.depth lo) (dh : M.lev v < M.depth hi)
    (hno : ∀ r, 2 ≤ r → r < M.nodes.length → M.nd r ≠ ((v : Int), lo, hi))
    (e1 : M'.order = M.order) (e2 : M'.level = M.level) (hr2 : 2 ≤ r) (hrM : ¬ M.stored r) (hlen : M.nodes.length ≤ M'.nodes.length) (hrl : r < M'.nodes.length)
    (hll : ∀ f, f < M'.nodes.length → f < M.nodes.length ∨ f = r)
    (hnew : M'.nd r = ((v : Int), lo, hi)) (hold : ∀ f, f ≠ r → M'.nd f = M.nd f) (hsh : M'.shown.length = M'.nodes.length) (hvis : ∀ f, M'.vis f = M.vis f)
    (hfr : ∀ f, f ∈ M'.free → f ∈ M.free ∧ f ≠ r) (hfn : M'.free.Nodup) : M'.WF ∧ Ext M M' ∧ M'.stored r := by
  have hn : M'.n = M.n := by unfold Mgr.n; rw [e1]
  have hlev : ∀ u, M'.lev u = M.lev u := fun u => by unfold Mgr.lev; rw [e2]
  have hord : ∀ u, M'.ord u = M.ord u := fun u => by unfold Mgr.ord; rw [e1]
  have he : Ext M M' := ⟨e1, e2, hlen, fun f _ hf => hold f (fun e => hrM (e ▸ hf)), hvis⟩
  have hst : M'.stored r := .inr ⟨hrl, by rw [hnew]; simp⟩
  refine ⟨⟨by rw [e1, e2]; exact h.len, ?_, ?_, Nat.le_trans h.two hlen, ?_, ?_, hsh, ?_, ?_, ?_, ?_, ?_, ?_, hfn⟩, he, hst⟩
  · intro u hu; rw [hlev, hord, hn]; exact h.ol u (hn ▸ hu)
  · intro i hi; rw [hlev, hord, hn]; exact h.lo_ i (hn ▸ hi)
  · rw [hold 0 (by omega)]; exact h.nd0
  · rw [hold 1 (by omega)]; exact h.nd1
  · rw [hvis]; exact h.sh0
  · rw [hvis]; exact h.sh1
  · intro f hf; rw [hvis] at hf; exact he.stored (h.shst f hf)
  · intro f h2 hf hf1
    by_cases e : f = r
    · subst e
      rw [hnew]
      refine ⟨by simp, by rw [hn]; simpa using hv, he.stored hl, he.stored hh, ne, ?_, ?_⟩
      · rw [he.depth hl, hlev]; simpa using dl
      · rw [he.depth hh, hlev]; simpa using dh
    · have hfM : f < M.nodes.length := (hll f hf).resolve_right e
      rw [hold f e] at hf1 ⊢
      obtain ⟨a1, a2, a3, a4, a5, a6, a7⟩ := h.node f h2 hfM hf1
      refine ⟨a1, by rw [hn]; exact a2, he.stored a3, he.stored a4, a5, ?_, ?_⟩
      · rw [he.depth a3, hlev]; exact a6
      · rw [he.depth a4, hlev]; exact a7
  · intro f g f2 g2 hf hg e ev
    by_cases ef : f = r
    · by_cases eg : g = r
      · rw [ef, eg]
      · exfalso
        rw [ef, hnew, hold g eg] at e
        exact hno g g2 ((hll g hg).resolve_right eg) e.symm
    · by_cases eg : g = r
      · exfalso
        rw [eg, hnew, hold f ef] at e
        exact hno f f2 ((hll f hf).resolve_right ef) e
      · rw [hold f ef, hold g eg] at e
        rw [hold f ef] at ev
        exact h.inj f g f2 g2 ((hll f hf).resolve_right ef) ((hll g hg).resolve_right eg) e ev
  · intro f hf
    obtain ⟨a1, a2⟩ := hfr f hf
    obtain ⟨b1, b2, b3⟩ := h.fr f a1
    exact ⟨b1, Nat.lt_of_lt_of_le b2 hlen, by rw [hold f a2]; exact b3⟩

structure PutSpec (M : Mgr) (v lo hi : Nat) (M' : Mgr) (r : Nat) : Prop where
  wf : M'.WF
  ext : Ext M M'
  st : M'.stored r
  sem : ∀ a, M'.sem r a = if a v then M.sem hi a else M.sem lo a
  dep : M.lev v ≤ M'.depth r
  len : M'.nodes.length ≤ M.nodes.length + 1

theorem put_spec {M : Mgr} (h : M.WF) {v lo hi : Nat} (hv : v < M.n) (hl : M.stored lo) (hh : M.stored hi) (dl : M.lev v < M.depth lo) (dh : M.lev v < M.depth hi) :
    PutSpec M v lo hi (M.put v lo hi).1 (M.put v lo hi).2 := by
  unfold put
  by_cases e : lo = hi
  · rw [if_pos e]
    exact ⟨h, .refl M, hl, fun a => by subst e; simp, Nat.le_of_lt dl, by simp⟩
  · rw [if_neg e]
    have fin : ∀ (M' : Mgr) (r : Nat), M'.WF → Ext M M' → M'.stored r → 2 ≤ r → M'.nd r = ((v : Int), lo, hi) → M'.nodes.length ≤ M.nodes.length + 1 → PutSpec M v lo hi M' r := by
      intro M' r hw he hs h2 hn hlen
      refine ⟨hw, he, hs, fun a => ?_, ?_, hlen⟩
      · rw [sem_node hw hs h2, hn]
        simp only [Int.toNat_natCast]
        rw [he.sem h hl, he.sem h hh]
      · unfold depth
        rw [if_neg (by omega), hn, he.lev]; simp
    cases hf : M.find ((v : Int), lo, hi) with
    | some r =>
      obtain ⟨r2, rl, rn⟩ := find_some hf
      exact fin M r h (.refl M) (.inr ⟨rl, by rw [rn]; simp⟩) r2 rn (by simp)
    | none =>
      have hno := find_none hf
      cases hg : M.free.getLast? with
      | some f =>
        have hmem : f ∈ M.free := List.mem_of_getLast? hg
        obtain ⟨f2, fl, fv⟩ := h.fr f hmem
        have hnewnd : ({ M with nodes := M.nodes.set f ((v : Int), lo, hi), free := M.free.dropLast } : Mgr).nd f = ((v : Int), lo, hi) := by simp [nd, fl]
        have hsplit : M.free = M.free.dropLast ++ [f] := by
          rw [List.getLast?_eq_some_iff] at hg
          obtain ⟨ys, hy⟩ := hg
          rw [hy]; simp
        have hnd : (M.free.dropLast ++ [f]).Nodup := hsplit ▸ h.fnd
        obtain ⟨a1, a2, a3⟩ := add_wf (M := M) (M' := { M with nodes := M.nodes.set f ((v : Int), lo, hi), free := M.free.dropLast }) (r := f) h hv hl hh e dl dh hno rfl rfl f2
          (fun hs => by rcases hs with hs | ⟨_, hs⟩ <;> first | omega | exact hs fv) (by simp) (by simpa using fl) (fun g hg => by simp at hg; exact .inl hg) hnewnd
          (fun g hne => by simp [nd, Ne.symm hne]) (by simpa using h.sh) (fun g => rfl)
          (fun g hg => by
            refine ⟨by rw [hsplit]; exact List.mem_append_left _ hg, fun e => ?_⟩
            subst e
            rw [List.nodup_append] at hnd
            exact hnd.2.2 g hg g (by simp) rfl)
          (by rw [List.nodup_append] at hnd; exact hnd.1)
        exact fin _ f a1 a2 a3 f2 hnewnd (by simp)
      | none =>
        have hnewnd : ({ M with nodes := M.nodes ++ [((v : Int), lo, hi)], shown := M.shown ++ [false] } : Mgr).nd M.nodes.length = ((v : Int), lo, hi) := by simp [nd]
        have hfree : M.free = [] := by simpa using hg
        have h2 := h.two
        obtain ⟨a1, a2, a3⟩ := add_wf (M := M) (M' := { M with nodes := M.nodes ++ [((v : Int), lo, hi)], shown := M.shown ++ [false] }) (r := M.nodes.length) h hv hl hh e dl dh hno rfl rfl h2
          (fun hs => by rcases hs with hs | ⟨hs, _⟩ <;> omega) (by simp) (by simp) (fun g hg => by simp at hg; omega) hnewnd
          (fun g hne => by
            simp only [nd, List.getD_eq_getElem?_getD, List.getElem?_append]
            split
            · rfl
            · rw [List.getElem?_eq_none (by simp; omega), List.getElem?_eq_none (by omega)])
          (by simp [h.sh]) (fun g => by
            simp only [vis, List.getD_eq_getElem?_getD, List.getElem?_append]
            split
            · rfl
            · rename_i hh
              rw [List.getElem?_eq_none (l := M.shown) (by omega)]
              by_cases e0 : g - M.shown.length = 0
              · rw [e0]; rfl
              · rw [List.getElem?_eq_none (by simp; omega)])
          (fun g hg => by simp [hfree] at hg) (by simp [hfree])
        exact fin _ _ a1 a2 a3 h2 hnewnd (by simp)

/-- If the function is there already, nothing is made. -/
theorem put_there {M : Mgr} (h : M.WF) {v lo hi r : Nat} (hv : v < M.n) (hl : M.stored lo) (hh : M.stored hi) (dl : M.lev v < M.depth lo) (dh : M.lev v < M.depth hi)
    (hr : M.stored r) (e : ∀ a, M.sem r a = if a v then M.sem hi a else M.sem lo a) : M.put v lo hi = (M, r) := by
  have low : ∀ a, M.sem lo a = M.sem r (upd a v false) := fun a => by rw [e, upd_same]; simp only [Bool.false_eq_true, if_false]; rw [sem_upd h hl _ _ _ dl]
  have high : ∀ a, M.sem hi a = M.sem r (upd a v true) := fun a => by rw [e, upd_same]; simp only [if_true]; rw [sem_upd h hh _ _ _ dh]
  unfold put
  by_cases eq : lo = hi
  · rw [if_pos eq]
    rw [canon h hl hr (fun a => by rw [e a, eq]; simp)]
  · rw [if_neg eq]
    -- the variable of r is v
    have h2 : 2 ≤ r := by
      rcases Nat.lt_or_ge r 2 with h2 | h2
      · exact (eq (canon h hl hh (fun a => by rw [low, high, sem_const _ _ _ h2, sem_const _ _ _ h2]))).elim
      · exact h2
    obtain ⟨v0, v1, sl, sh, ne, rl, rh⟩ := node_of h hr h2
    have hd : M.depth r = M.lev (M.nd r).1.toNat := by unfold depth; rw [if_neg (by omega)]
    have ev : (M.nd r).1.toNat = v := by
      rcases Nat.lt_trichotomy (M.depth r) (M.lev v) with hlt | heq | hgt
      · exfalso
        have hne : v ≠ (M.nd r).1.toNat := fun x => by rw [← x] at hd; omega
        refine ne (canon h sl sh (fun a => ?_))
        rw [sem_lo h hr h2, sem_hi h hr h2, e, e, upd_other _ _ _ _ hne, upd_other _ _ _ _ hne,
          sem_upd h hl _ _ _ (by omega), sem_upd h hl _ _ _ (by omega), sem_upd h hh _ _ _ (by omega), sem_upd h hh _ _ _ (by omega)]
      · exact lev_inj h (by omega) hv (by omega)
      · exact (eq (canon h hl hh (fun a => by rw [low, high, sem_upd h hr _ _ _ hgt, sem_upd h hr _ _ _ hgt]))).elim
    have el : (M.nd r).2.1 = lo := canon h sl hl (fun a => by rw [sem_lo h hr h2, ev, low])
    have eh : (M.nd r).2.2 = hi := canon h sh hh (fun a => by rw [sem_hi h hr h2, ev, high])
    have en : M.nd r = ((v : Int), lo, hi) := Prod.ext (by simp; omega) (Prod.ext el eh)
    rw [← en, find_eq h h2 hr]

/-! ### building a function -/

/-- A function of assignments reads only the variables at level d and beyond. -/
def Reads (M : Mgr) (d : Nat) (F : (Nat → Bool) → Bool) : Prop := ∀ a b : Nat → Bool, (∀ v, v < M.n → d ≤ M.lev v → a v = b v) → F a = F b

def build : Nat → Mgr → ((Nat → Bool) → Bool) → Mgr × Nat
  | 0, M, F => (M, if F (fun _ => false) then 1 else 0)
  | k + 1, M, F =>
    let v := M.ord (M.n - (k + 1))
    let A := build k M (fun a => F (upd a v false))
    let B := build k A.1 (fun a => F (upd a v true))
    B.1.put v A.2 B.2

structure BuildSpec (M : Mgr) (d : Nat) (F : (Nat → Bool) → Bool) (M' : Mgr) (r : Nat) : Prop where
  wf : M'.WF
  ext : Ext M M'
  st : M'.stored r
  sem : ∀ a, M'.sem r a = F a
  dep : d ≤ M'.depth r

theorem Reads.upd {M : Mgr} (h : M.WF) {k : Nat} (hk : k < M.n) {F : (Nat → Bool) → Bool} (hF : M.Reads (M.n - (k + 1)) F) (b : Bool) :
    M.Reads (M.n - k) (fun a => F (Mgr.upd a (M.ord (M.n - (k + 1))) b)) := by
  intro x y hxy
  refine hF _ _ (fun v hv hd => ?_)
  by_cases e : v = M.ord (M.n - (k + 1))
  · subst e; simp
  · rw [upd_other _ _ _ _ e, upd_other _ _ _ _ e]
    refine hxy v hv ?_
    have : M.lev v ≠ M.n - (k + 1) := fun x => e (by rw [← x, (h.ol v hv).2])
    omega

theorem Reads.ext {M M' : Mgr} (e : Ext M M') {d : Nat} {F : (Nat → Bool) → Bool} (h : M.Reads d F) : M'.Reads d F :=
  fun a b hab => h a b (fun v hv hd => hab v (by rw [e.n]; exact hv) (by rw [e.lev]; exact hd))

theorem build_spec : ∀ (k : Nat) (M : Mgr), M.WF → k ≤ M.n → ∀ F, M.Reads (M.n - k) F → BuildSpec M (M.n - k) F (build k M F).1 (build k M F).2
  | 0, M, h, _, F, hF => by
    have hc : ∀ a, F a = F (fun _ => false) := fun a => hF _ _ (fun v hv hd => by have := (h.ol v hv).1; omega)
    refine ⟨h, .refl M, .inl ?_, fun a => ?_, ?_⟩
    · simp only [build]; split <;> omega
    · simp only [build]; rw [hc a]; split <;> simp_all
    · simp only [build, depth]; split <;> simp
  | k + 1, M, h, hk, F, hF => by
    have hlv := h.lo_ (M.n - (k + 1)) (by omega)
    have s1 := build_spec k M h (by omega) _ (Reads.upd h (by omega) hF false)
    have hF2 : M.Reads (M.n - k) (fun a => F (upd a (M.ord (M.n - (k + 1))) true)) := Reads.upd h (by omega) hF true
    have s2 := build_spec k (build k M (fun a => F (upd a (M.ord (M.n - (k + 1))) false))).1 s1.wf (by rw [s1.ext.n]; omega) (fun a => F (upd a (M.ord (M.n - (k + 1))) true)) (by rw [s1.ext.n]; exact Reads.ext s1.ext hF2)
    show BuildSpec M (M.n - (k + 1)) F (Mgr.put _ _ _ _).1 (Mgr.put _ _ _ _).2
    generalize hA : build k M (fun a => F (upd a (M.ord (M.n - (k + 1))) false)) = A at *
    generalize hB : build k A.1 (fun a => F (upd a (M.ord (M.n - (k + 1))) true)) = B at *
    have hn2 : B.1.n = M.n := by rw [s2.ext.n, s1.ext.n]
    have hlev2 : ∀ v, B.1.lev v = M.lev v := fun v => by rw [s2.ext.lev, s1.ext.lev]
    have d1 : B.1.depth A.2 = A.1.depth A.2 := s2.ext.depth s1.st
    have q1 := s1.dep
    have q2 := s2.dep
    rw [s1.ext.n] at q2
    have m := put_spec s2.wf (v := M.ord (M.n - (k + 1))) (lo := A.2) (hi := B.2) (by rw [hn2]; exact hlv.1) (s2.ext.stored s1.st) s2.st (by rw [hlev2, hlv.2, d1]; omega) (by rw [hlev2, hlv.2]; omega)
    refine ⟨m.wf, s1.ext.trans (s2.ext.trans m.ext), m.st, fun a => ?_, ?_⟩
    · rw [m.sem, s2.sem, s2.ext.sem s1.wf s1.st, s1.sem]
      have hu : ∀ b, a (M.ord (M.n - (k + 1))) = b → F (upd a (M.ord (M.n - (k + 1))) b) = F a := by
        intro b hb
        congr 1
        funext u
        by_cases e : u = M.ord (M.n - (k + 1))
        · subst e; simp [hb]
        · rw [upd_other _ _ _ _ e]
      cases hb : a (M.ord (M.n - (k + 1)))
      · simpa using hu false hb
      · simpa using hu true hb
    · have := m.dep
      rw [hlev2, hlv.2] at this
      exact this

/-- What is there already is not made anew. -/
theorem build_there : ∀ (k : Nat) (M : Mgr), M.WF → k ≤ M.n → ∀ F, M.Reads (M.n - k) F → ∀ r, M.stored r → (∀ a, M.sem r a = F a) → build k M F = (M, r)
  | 0, M, h, hk, F, hF, r, hr, e => by
    have s := build_spec 0 M h (by omega) F hF
    have e1 : (build 0 M F).1 = M := rfl
    have : (build 0 M F).2 = r := canon (M := M) h s.st hr (fun a => by have := s.sem a; rw [e1] at this; rw [this, e])
    rw [← this]; rfl
  | k + 1, M, h, hk, F, hF, r, hr, e => by
    have hlv := h.lo_ (M.n - (k + 1)) (by omega)
    have hF1 := Reads.upd h (show k < M.n by omega) hF false
    have hF2 := Reads.upd h (show k < M.n by omega) hF true
    -- the cofactors are there
    have cof : ∀ b, ∃ c, M.stored c ∧ ∀ a, M.sem c a = F (upd a (M.ord (M.n - (k + 1))) b) := by
      intro b
      by_cases h2 : r < 2
      · exact ⟨r, hr, fun a => by rw [← e, sem_const _ _ _ h2, sem_const _ _ _ h2]⟩
      · obtain ⟨v0, v1, sl, sh, ne, rl, rh⟩ := node_of h hr (by omega)
        have hd : M.depth r = M.lev (M.nd r).1.toNat := by unfold depth; rw [if_neg (by omega)]
        rcases Nat.lt_trichotomy (M.depth r) (M.n - (k + 1)) with hlt | heq | hgt
        · exfalso
          refine ne (canon h sl sh (fun a => ?_))
          rw [sem_lo h hr (by omega), sem_hi h hr (by omega), e, e]
          refine hF _ _ (fun v hv hdv => ?_)
          have : v ≠ (M.nd r).1.toNat := fun x => by subst x; omega
          rw [upd_other _ _ _ _ this, upd_other _ _ _ _ this]
        · have ev : (M.nd r).1.toNat = M.ord (M.n - (k + 1)) := by rw [← heq, hd, (h.ol _ (by omega)).2]
          cases b
          · exact ⟨_, sl, fun a => by rw [sem_lo h hr (by omega), e, ev]⟩
          · exact ⟨_, sh, fun a => by rw [sem_hi h hr (by omega), e, ev]⟩
        · exact ⟨r, hr, fun a => by rw [← e, sem_upd h hr _ _ _ (by rw [hlv.2]; exact hgt)]⟩
    obtain ⟨c0, s0, e0⟩ := cof false
    obtain ⟨c1, s1, e1⟩ := cof true
    have b0 := build_there k M h (by omega) _ hF1 c0 s0 e0
    have b1 := build_there k M h (by omega) _ hF2 c1 s1 e1
    have p0 := build_spec k M h (by omega) _ hF1
    have p1 := build_spec k M h (by omega) _ hF2
    rw [b0] at p0
    rw [b1] at p1
    have q0 := p0.dep
    have q1 := p1.dep
    simp only at q0 q1
    unfold build
    simp only [b0, b1]
    refine put_there h hlv.1 s0 s1 (by omega) (by omega) hr (fun a => ?_)
    have hu : ∀ b, a (M.ord (M.n - (k + 1))) = b → F (upd a (M.ord (M.n - (k + 1))) b) = F a := by
      intro b hb
      congr 1
      funext u
      by_cases e : u = M.ord (M.n - (k + 1))
      · subst e; simp [hb]
      · rw [upd_other _ _ _ _ e]
    rw [e, e0, e1]
    cases hb : a (M.ord (M.n - (k + 1)))
    · simpa using (hu false hb).symm
    · simpa using (hu true hb).symm

/-- A level of which F does not read is passed over. -/
theorem build_skip {k : Nat} {M : Mgr} (h : M.WF) (hk : k + 1 ≤ M.n) {F : (Nat → Bool) → Bool} (hF : M.Reads (M.n - k) F) : build (k + 1) M F = build k M F := by
  have hlv := h.lo_ (M.n - (k + 1)) (by omega)
  have hF' : M.Reads (M.n - (k + 1)) F := fun a b hab => hF a b (fun v hv hd => hab v hv (by omega))
  have hsame : ∀ b a, F (upd a (M.ord (M.n - (k + 1))) b) = F a := by
    intro b a
    refine hF _ _ (fun v hv hd => upd_other _ _ _ _ (fun e => ?_))
    subst e
    rw [hlv.2] at hd
    omega
  have s1 := build_spec k M h (by omega) F hF
  have e0 : (fun a => F (upd a (M.ord (M.n - (k + 1))) false)) = F := funext (hsame false)
  have e1 : (fun a => F (upd a (M.ord (M.n - (k + 1))) true)) = F := funext (hsame true)
  have b1 := build_there k (build k M F).1 s1.wf (by rw [s1.ext.n]; omega) F (by rw [s1.ext.n]; exact Reads.ext s1.ext hF) (build k M F).2 s1.st s1.sem
  conv => lhs; unfold build
  simp only [e0, e1, b1]
  unfold put
  simp

theorem build_skips {k : Nat} {M : Mgr} (h : M.WF) : ∀ (j : Nat), k + j ≤ M.n → ∀ {F : (Nat → Bool) → Bool}, M.Reads (M.n - k) F → build (k + j) M F = build k M F
  | 0, _, _, _ => rfl
  | j + 1, hk, F, hF => by
    show build (k + j + 1) M F = _
    rw [build_skip h (by omega) (F := F) (fun a b hab => hF a b (fun v hv hd => hab v hv (by omega)))]
    exact build_skips h j (by omega) hF

end Mgr
end Go.Proofs.Ytngbodmooddjbaa

namespace Go.Proofs.Ytngbodmooddjbaa

/-- The visits of 'walk': what has been seen, what has been visited (each node behind its children). -/
def Mgr.walkS (M : Mgr) : Nat → List Nat × List Nat → Nat → List Nat × List Nat
  | 0, s, _ => s
  | k + 1, s, f =>
    if f < 2 ∨ f ∈ s.1 then s else
    let s1 := walkS M k (f :: s.1, s.2) (M.nd f).2.1
    let s2 := walkS M k s1 (M.nd f).2.2
    (s2.1, s2.2 ++ [f])

theorem Mgr.walkS_len (M : Mgr) : ∀ (k : Nat) (s : List Nat × List Nat) (f : Nat), s.2.length ≤ (M.walkS k s f).2.length
  | 0, _, _ => Nat.le_refl _
  | k + 1, s, f => by
    unfold Mgr.walkS
    split
    · exact Nat.le_refl _
    · have h1 := Mgr.walkS_len M k (f :: s.1, s.2) (M.nd f).2.1
      have h2 := Mgr.walkS_len M k (M.walkS k (f :: s.1, s.2) (M.nd f).2.1) (M.nd f).2.2
      simp only [List.length_append, List.length_singleton]
      simp only at h1
      omega

namespace Mgr

/-- g is no constant and is reached from f. -/
def Reach (M : Mgr) : Nat → Nat → Nat → Prop
  | 0, _, _ => False
  | k + 1, f, g => 2 ≤ f ∧ (g = f ∨ Reach M k (M.nd f).2.1 g ∨ Reach M k (M.nd f).2.2 g)

/-- What has been seen from level d on is closed under children. -/
def Closed (M : Mgr) (d : Nat) (S : List Nat) : Prop := ∀ s, s ∈ S → d ≤ M.depth s → 2 ≤ s → (2 ≤ (M.nd s).2.1 → (M.nd s).2.1 ∈ S) ∧ (2 ≤ (M.nd s).2.2 → (M.nd s).2.2 ∈ S)

structure WalkSpec (M : Mgr) (k f : Nat) (s s' : List Nat × List Nat) (N : List Nat) : Prop where
  vis : s'.2 = s.2 ++ N
  nodup : N.Nodup
  fresh : ∀ g, g ∈ N → g ∉ s.1
  reach : ∀ g, g ∈ N → M.Reach k f g
  seen : ∀ g, g ∈ s'.1 ↔ g ∈ s.1 ∨ g ∈ N
  closed : ∀ d, d ≤ M.depth f → M.Closed (M.depth f) s.1 → M.Closed d s.1 → M.Closed d s'.1
  self : 2 ≤ f → f ∈ s'.1
  deep : ∀ g, g ∈ N → M.stored g ∧ 2 ≤ g ∧ M.depth f ≤ M.depth g

theorem walk_spec {M : Mgr} (h : M.WF) : ∀ (k f : Nat) (s : List Nat × List Nat), M.stored f → M.n - M.depth f < k → ∃ N, WalkSpec M k f s (M.walkS k s f) N
  | 0, f, s, _, hk => by omega
  | k + 1, f, s, hf, hk => by
    by_cases h2 : f < 2
    · refine ⟨[], ?_⟩
      have e : M.walkS (k + 1) s f = s := by unfold walkS; rw [if_pos (.inl h2)]
      rw [e]
      exact ⟨by simp, List.nodup_nil, by simp, by simp, by simp, fun d _ _ hc => hc, fun x => by omega, by simp⟩
    · by_cases hs : f ∈ s.1
      · refine ⟨[], ?_⟩
        have e : M.walkS (k + 1) s f = s := by unfold walkS; rw [if_pos (.inr hs)]
        rw [e]
        exact ⟨by simp, List.nodup_nil, by simp, by simp, by simp, fun d _ _ hc => hc, fun _ => hs, by simp⟩
      · obtain ⟨_, _, sl, sh, _, dl, dh⟩ := node_of h hf (by omega)
        have q1 := depth_le h sl
        have q2 := depth_le h sh
        obtain ⟨N1, w1⟩ := walk_spec h k (M.nd f).2.1 (f :: s.1, s.2) sl (by omega)
        obtain ⟨N2, w2⟩ := walk_spec h k (M.nd f).2.2 (M.walkS k (f :: s.1, s.2) (M.nd f).2.1) sh (by omega)
        have e : M.walkS (k + 1) s f = ((M.walkS k (M.walkS k (f :: s.1, s.2) (M.nd f).2.1) (M.nd f).2.2).1, (M.walkS k (M.walkS k (f :: s.1, s.2) (M.nd f).2.1) (M.nd f).2.2).2 ++ [f]) := by
          conv => lhs; unfold walkS
          rw [if_neg (by simp; exact ⟨by omega, hs⟩)]
        rw [e]
        generalize M.walkS k (f :: s.1, s.2) (M.nd f).2.1 = t1 at *
        generalize M.walkS k t1 (M.nd f).2.2 = t2 at *
        have fN1 : f ∉ N1 := fun x => w1.fresh f x (by simp)
        have fN2 : f ∉ N2 := fun x => w2.fresh f x ((w1.seen f).2 (.inl (by simp)))
        refine ⟨N1 ++ N2 ++ [f], ?_, ?_, ?_, ?_, ?_, ?_, ?_, ?_⟩
        · simp [w2.vis, w1.vis]
        · rw [List.nodup_append]
          refine ⟨?_, by simp, ?_⟩
          · rw [List.nodup_append]
            refine ⟨w1.nodup, w2.nodup, fun a ha b hb e => ?_⟩
            subst e
            exact w2.fresh a hb ((w1.seen a).2 (.inr ha))
          · intro a ha b hb e
            simp at hb
            subst e; subst hb
            rcases List.mem_append.1 ha with x | x
            · exact fN1 x
            · exact fN2 x
        · intro g hg
          simp at hg
          rcases hg with x | x | x
          · exact fun y => w1.fresh g x (by simp [y])
          · exact fun y => w2.fresh g x ((w1.seen g).2 (.inl (by simp [y])))
          · subst x; exact hs
        · intro g hg
          simp at hg
          refine ⟨by omega, ?_⟩
          rcases hg with x | x | x
          · exact .inr (.inl (w1.reach g x))
          · exact .inr (.inr (w2.reach g x))
          · exact .inl x
        · intro g
          simp only [w2.seen, w1.seen, List.mem_cons, List.mem_append, List.not_mem_nil, or_false]
          constructor
          · rintro (((x | x) | x) | x)
            · exact .inr (.inr x)
            · exact .inl x
            · exact .inr (.inl (.inl x))
            · exact .inr (.inl (.inr x))
          · rintro (x | (x | x) | x)
            · exact .inl (.inl (.inr x))
            · exact .inl (.inr x)
            · exact .inr x
            · exact .inl (.inl (.inl x))
        · intro d hd hc0 hcd
          -- the closure behind the two walks
          have c1 : M.Closed (M.depth (M.nd f).2.1) (f :: s.1) := fun g hg hgd hg2 => by
            simp at hg
            rcases hg with x | x
            · subst x; omega
            · have := hc0 g x (by omega) hg2
              exact ⟨fun y => by simp [this.1 y], fun y => by simp [this.2 y]⟩
          have base : ∀ d', M.depth f < d' → M.Closed (M.depth f) s.1 → M.Closed d' (f :: s.1) := fun d' hd' hc g hg hgd hg2 => by
            simp at hg
            rcases hg with x | x
            · subst x; omega
            · have := hc g x (by omega) hg2
              exact ⟨fun y => by simp [this.1 y], fun y => by simp [this.2 y]⟩
          have k1 : M.Closed (M.depth (M.nd f).2.1) t1.1 := w1.closed _ (Nat.le_refl _) c1 c1
          -- at level depth f + 1 all is closed behind both walks
          have a1 : M.Closed (M.depth f + 1) t1.1 := w1.closed _ (by omega) c1 (base _ (by omega) hc0)
          have a2 : M.Closed (M.depth f + 1) t2.1 := w2.closed _ (by omega) (fun g hg hgd hg2 => a1 g hg (by omega) hg2) a1
          have lo_in : 2 ≤ (M.nd f).2.1 → (M.nd f).2.1 ∈ t2.1 := fun x => (w2.seen _).2 (.inl (w1.self x))
          have hi_in : 2 ≤ (M.nd f).2.2 → (M.nd f).2.2 ∈ t2.1 := fun x => w2.self x
          intro g hg hgd hg2
          by_cases gf : g = f
          · subst gf; exact ⟨lo_in, hi_in⟩
          · rcases Nat.lt_or_ge (M.depth f) (M.depth g) with hlt | hge
            · exact a2 g hg (by omega) hg2
            · -- an elder one: it was in s
              have hgs : g ∈ s.1 := by
                rcases (w2.seen g).1 hg with x | x
                · rcases (w1.seen g).1 x with y | y
                  · simp at y
                    exact y.resolve_left gf
                  · have := (w1.deep g y).2.2; omega
                · have := (w2.deep g x).2.2; omega
              have := hcd g hgs hgd hg2
              refine ⟨fun y => ?_, fun y => ?_⟩
              · exact (w2.seen _).2 (.inl ((w1.seen _).2 (.inl (by simp [this.1 y]))))
              · exact (w2.seen _).2 (.inl ((w1.seen _).2 (.inl (by simp [this.2 y]))))
        · intro _
          exact (w2.seen f).2 (.inl ((w1.seen f).2 (.inl (by simp))))
        · intro g hg
          simp at hg
          rcases hg with x | x | x
          · have := w1.deep g x; exact ⟨this.1, this.2.1, by omega⟩
          · have := w2.deep g x; exact ⟨this.1, this.2.1, by omega⟩
          · subst x; exact ⟨hf, by omega, Nat.le_refl _⟩

/-- What is closed and has f has all that is reached from f. -/
theorem closed_reach {M : Mgr} (h : M.WF) {S : List Nat} : ∀ (k f g : Nat), M.stored f → M.Closed (M.depth f) S → (2 ≤ f → f ∈ S) → M.Reach k f g → g ∈ S
  | 0, _, _, _, _, _, hr => hr.elim
  | k + 1, f, g, hf, hc, hin, hr => by
    obtain ⟨h2, hr⟩ := hr
    obtain ⟨_, _, sl, sh, _, dl, dh⟩ := node_of h hf h2
    have := hc f (hin h2) (Nat.le_refl _) h2
    rcases hr with x | x | x
    · subst x; exact hin h2
    · exact closed_reach h k _ g sl (fun s hs hd h2 => hc s hs (by omega) h2) this.1 x
    · exact closed_reach h k _ g sh (fun s hs hd h2 => hc s hs (by omega) h2) this.2 x

theorem nodup_length : ∀ (l m : List Nat), l.Nodup → (∀ x, x ∈ l → x ∈ m) → l.length ≤ m.length
  | [], _, _, _ => by simp
  | a :: l, m, hl, hs => by
    rw [List.nodup_cons] at hl
    have ha := hs a (by simp)
    have := nodup_length l (m.erase a) hl.2 (fun x hx => (List.mem_erase_of_ne (fun e => hl.1 (by rw [← e]; exact hx))).2 (hs x (by simp [hx])))
    rw [List.length_erase_of_mem ha] at this
    have := List.length_pos_of_mem ha
    simp only [List.length_cons]
    omega

/-- The nodes of f, each behind its children. -/
def nodesOf (M : Mgr) (f : Nat) : List Nat := (M.walkS (M.n + 1) ([], []) f).2
def size (M : Mgr) (f : Nat) : Nat := (M.nodesOf f).length

theorem nodesOf_spec {M : Mgr} (h : M.WF) {f : Nat} (hf : M.stored f) : (M.nodesOf f).Nodup ∧ (∀ g, g ∈ M.nodesOf f ↔ M.Reach (M.n + 1) f g) ∧ ∀ g, g ∈ M.nodesOf f → M.stored g ∧ 2 ≤ g := by
  obtain ⟨N, w⟩ := walk_spec h (M.n + 1) f ([], []) hf (by omega)
  have e : M.nodesOf f = N := by unfold nodesOf; rw [w.vis]; simp
  rw [e]
  refine ⟨w.nodup, fun g => ⟨w.reach g, fun hr => ?_⟩, fun g hg => ⟨(w.deep g hg).1, (w.deep g hg).2.1⟩⟩
  have c0 : M.Closed (M.depth f) ([] : List Nat) := fun s hs => by simp at hs
  have hc := w.closed (M.depth f) (Nat.le_refl _) c0 c0
  have := closed_reach h (M.n + 1) f g hf hc w.self hr
  simpa using (w.seen g).1 this

theorem size_le {M : Mgr} (h : M.WF) {f : Nat} (hf : M.stored f) : M.size f ≤ M.nodes.length := by
  obtain ⟨nd, _, hs⟩ := nodesOf_spec h hf
  have hsub : ∀ g, g ∈ M.nodesOf f → g ∈ List.range M.nodes.length := fun g hg => by
    obtain ⟨s, h2⟩ := hs g hg
    rcases s with s | s
    · omega
    · simpa using s.1
  have := nodup_length _ _ nd hsub
  simpa [size] using this

/-- A list without repetition that has just what is reached has the size's length. -/
theorem size_eq {M : Mgr} (h : M.WF) {f : Nat} (hf : M.stored f) {l : List Nat} (hl : l.Nodup) (he : ∀ g, g ∈ l ↔ M.Reach (M.n + 1) f g) : M.size f = l.length := by
  obtain ⟨nd, hm, _⟩ := nodesOf_spec h hf
  have h1 := nodup_length _ _ nd (fun g hg => (he g).2 ((hm g).1 hg))
  have h2 := nodup_length _ _ hl (fun g hg => (hm g).2 ((he g).1 hg))
  unfold size; omega

end Mgr
end Go.Proofs.Ytngbodmooddjbaa

namespace Go.Proofs.Ytngbodmooddjbaa
namespace Mgr

/-- Levels above d as in a, the others as in b. -/
def mix (M : Mgr) (d : Nat) (a b : Nat → Bool) : Nat → Bool := fun v => if M.lev v < d then a v else b v

theorem Reach.mono {M : Mgr} : ∀ {k k' f g : Nat}, k ≤ k' → M.Reach k f g → M.Reach k' f g
  | 0, _, _, _, _, h => h.elim
  | k + 1, 0, _, _, hk, _ => by omega
  | k + 1, k' + 1, f, g, hk, h => by
    obtain ⟨h2, h⟩ := h
    refine ⟨h2, ?_⟩
    rcases h with h | h | h
    · exact .inl h
    · exact .inr (.inl (h.mono (by omega)))
    · exact .inr (.inr (h.mono (by omega)))

theorem Reach.fuel {M : Mgr} (h : M.WF) : ∀ {k f g : Nat}, M.stored f → M.Reach k f g → ∀ k', M.n - M.depth f < k' → M.Reach k' f g
  | 0, _, _, _, hr, _, _ => hr.elim
  | k + 1, f, g, hf, hr, 0, hk => by omega
  | k + 1, f, g, hf, hr, k' + 1, hk => by
    obtain ⟨h2, hr⟩ := hr
    obtain ⟨_, _, sl, sh, _, dl, dh⟩ := node_of h hf h2
    have q1 := depth_le h sl
    have q2 := depth_le h sh
    refine ⟨h2, ?_⟩
    rcases hr with hr | hr | hr
    · exact .inl hr
    · exact .inr (.inl (Reach.fuel h sl hr k' (by omega)))
    · exact .inr (.inr (Reach.fuel h sh hr k' (by omega)))

/-- What is reached from what is reached. -/
theorem Reach.trans {M : Mgr} : ∀ {k k' f g x : Nat}, M.Reach k f g → M.Reach k' g x → M.Reach (k + k') f x
  | 0, _, _, _, _, h, _ => h.elim
  | k + 1, k', f, g, x, h, h' => by
    obtain ⟨h2, h⟩ := h
    rcases h with h | h | h
    · subst h; exact h'.mono (by omega)
    · rw [show k + 1 + k' = (k + k') + 1 by omega]
      exact ⟨h2, .inr (.inl (h.trans h'))⟩
    · rw [show k + 1 + k' = (k + k') + 1 by omega]
      exact ⟨h2, .inr (.inr (h.trans h'))⟩

theorem Reach.spec {M : Mgr} (h : M.WF) : ∀ {k f g : Nat}, M.stored f → M.Reach k f g → M.stored g ∧ 2 ≤ g ∧ M.depth f ≤ M.depth g
  | 0, _, _, _, hr => hr.elim
  | k + 1, f, g, hf, hr => by
    obtain ⟨h2, hr⟩ := hr
    obtain ⟨_, _, sl, sh, _, dl, dh⟩ := node_of h hf h2
    rcases hr with hr | hr | hr
    · subst hr; exact ⟨hf, h2, Nat.le_refl _⟩
    · have := Reach.spec h sl hr; exact ⟨this.1, this.2.1, by omega⟩
    · have := Reach.spec h sh hr; exact ⟨this.1, this.2.1, by omega⟩

/-- A reached node is a cofactor: at its own level. -/
theorem Reach.cof {M : Mgr} (h : M.WF) : ∀ {k f g : Nat}, M.stored f → M.Reach k f g → ∃ a, ∀ b, M.sem g b = M.sem f (M.mix (M.depth g) a b)
  | 0, _, _, _, hr => hr.elim
  | k + 1, f, g, hf, hr => by
    obtain ⟨h2, hr⟩ := hr
    obtain ⟨v0, v1, sl, sh, _, dl, dh⟩ := node_of h hf h2
    have hd : M.depth f = M.lev (M.nd f).1.toNat := by unfold depth; rw [if_neg (by omega)]
    rcases hr with hr | hr | hr
    · subst hr
      refine ⟨fun _ => false, fun b => sem_agree h _ g hf (Nat.le_refl _) _ _ (fun v hv hdv => ?_)⟩
      unfold mix; rw [if_neg (by omega)]
    · obtain ⟨a, ha⟩ := Reach.cof h sl hr
      have hg := Reach.spec h sl hr
      refine ⟨upd a (M.nd f).1.toNat false, fun b => ?_⟩
      rw [ha, sem_lo h hf h2]
      refine sem_agree h _ f hf (Nat.le_refl _) _ _ (fun v hv _ => ?_)
      by_cases e : v = (M.nd f).1.toNat
      · subst e; unfold mix; rw [upd_same, if_pos (by omega), upd_same]
      · rw [upd_other _ _ _ _ e]; unfold mix; rw [upd_other _ _ _ _ e]
    · obtain ⟨a, ha⟩ := Reach.cof h sh hr
      have hg := Reach.spec h sh hr
      refine ⟨upd a (M.nd f).1.toNat true, fun b => ?_⟩
      rw [ha, sem_hi h hf h2]
      refine sem_agree h _ f hf (Nat.le_refl _) _ _ (fun v hv _ => ?_)
      by_cases e : v = (M.nd f).1.toNat
      · subst e; unfold mix; rw [upd_same, if_pos (by omega), upd_same]
      · rw [upd_other _ _ _ _ e]; unfold mix; rw [upd_other _ _ _ _ e]

/-- Each cofactor is a constant or a reached node. -/
theorem cof_ref {M : Mgr} (h : M.WF) (d : Nat) (a : Nat → Bool) : ∀ (k f : Nat), M.stored f → M.n - M.depth f < k → ∃ g, M.stored g ∧ (∀ b, M.sem g b = M.sem f (M.mix d a b)) ∧ (2 ≤ g → M.Reach k f g)
  | 0, _, _, hk => by omega
  | k + 1, f, hf, hk => by
    by_cases h2 : f < 2
    · exact ⟨f, hf, fun b => by rw [sem_const _ _ _ h2, sem_const _ _ _ h2], fun x => by omega⟩
    · obtain ⟨v0, v1, sl, sh, _, dl, dh⟩ := node_of h hf (by omega)
      have hd : M.depth f = M.lev (M.nd f).1.toNat := by unfold depth; rw [if_neg (by omega)]
      have q1 := depth_le h sl
      have q2 := depth_le h sh
      by_cases hlt : M.depth f < d
      · cases hb : a (M.nd f).1.toNat with
        | false =>
          obtain ⟨g, sg, hg, hr⟩ := cof_ref h d a k _ sl (by omega)
          refine ⟨g, sg, fun b => ?_, fun x => ⟨by omega, .inr (.inl (hr x))⟩⟩
          rw [hg, sem_lo h hf (by omega)]
          refine sem_agree h _ f hf (Nat.le_refl _) _ _ (fun v hv _ => ?_)
          by_cases e : v = (M.nd f).1.toNat
          · subst e; rw [upd_same]; unfold mix; rw [if_pos (by omega), hb]
          · rw [upd_other _ _ _ _ e]
        | true =>
          obtain ⟨g, sg, hg, hr⟩ := cof_ref h d a k _ sh (by omega)
          refine ⟨g, sg, fun b => ?_, fun x => ⟨by omega, .inr (.inr (hr x))⟩⟩
          rw [hg, sem_hi h hf (by omega)]
          refine sem_agree h _ f hf (Nat.le_refl _) _ _ (fun v hv _ => ?_)
          by_cases e : v = (M.nd f).1.toNat
          · subst e; rw [upd_same]; unfold mix; rw [if_pos (by omega), hb]
          · rw [upd_other _ _ _ _ e]
      · refine ⟨f, hf, fun b => sem_agree h _ f hf (Nat.le_refl _) _ _ (fun v hv hdv => ?_), fun _ => ⟨by omega, .inl rfl⟩⟩
        unfold mix; rw [if_neg (by omega)]

/-- A function that is no constant. -/
def NonConst (F : (Nat → Bool) → Bool) : Prop := ∃ a b, F a ≠ F b

theorem nonconst_two {M : Mgr} {g : Nat} {F : (Nat → Bool) → Bool} (hs : ∀ b, M.sem g b = F b) (hn : NonConst F) : 2 ≤ g := by
  rcases Nat.lt_or_ge g 2 with h | h
  · obtain ⟨a, b, hab⟩ := hn
    exfalso; apply hab
    rw [← hs, ← hs, sem_const _ _ _ h, sem_const _ _ _ h]
  · exact h

theorem two_nonconst {M : Mgr} (h : M.WF) {g : Nat} (hg : M.stored g) (h2 : 2 ≤ g) : NonConst (M.sem g) := by
  by_cases hn : NonConst (M.sem g)
  · exact hn
  · exfalso
    have hc : ∀ a b, M.sem g a = M.sem g b := fun a b => by
      by_cases e : M.sem g a = M.sem g b
      · exact e
      · exact (hn ⟨a, b, e⟩).elim
    cases hv : M.sem g (fun _ => false) with
    | false =>
      have := canon h hg (.inl (by omega) : M.stored 0) (fun a => by rw [hc a (fun _ => false), hv, sem_zero])
      omega
    | true =>
      have := canon h hg (.inl (by omega) : M.stored 1) (fun a => by rw [hc a (fun _ => false), hv, sem_one])
      omega

/-- The size of a function whose cofactors are listed. -/
theorem size_family {M : Mgr} (h : M.WF) {f : Nat} (hf : M.stored f) (m : Nat) (G : Nat → (Nat → Bool) → Bool)
    (dist : ∀ i j, i < m → j < m → G i = G j → i = j) (non : ∀ i, i < m → NonConst (G i)) (isc : ∀ i, i < m → ∃ d a, ∀ b, G i b = M.sem f (M.mix d a b))
    (all : ∀ d a, NonConst (fun b => M.sem f (M.mix d a b)) → ∃ i, i < m ∧ G i = fun b => M.sem f (M.mix d a b)) : M.size f = m := by
  have ex : ∀ i, ∃ g, i < m → M.stored g ∧ (∀ b, M.sem g b = G i b) ∧ M.Reach (M.n + 1) f g := fun i => by
    by_cases hi : i < m
    · obtain ⟨d, a, hda⟩ := isc i hi
      obtain ⟨g, sg, hg, hr⟩ := cof_ref h d a (M.n + 1) f hf (by omega)
      have hs : ∀ b, M.sem g b = G i b := fun b => by rw [hg, hda]
      exact ⟨g, fun _ => ⟨sg, hs, hr (nonconst_two hs (non i hi))⟩⟩
    · exact ⟨0, fun x => (hi x).elim⟩
  obtain ⟨r, hr⟩ := Classical.axiomOfChoice ex
  have hl : M.size f = ((List.range m).map r).length := by
    refine size_eq h hf ?_ (fun g => ?_)
    · rw [List.nodup_iff_pairwise_ne, List.pairwise_map]
      have hnd : (List.range m).Nodup := List.nodup_range
      rw [List.nodup_iff_pairwise_ne] at hnd
      refine hnd.imp_of_mem (fun {i j} hi hj hne e => hne ?_)
      simp at hi hj
      exact dist i j hi hj (funext fun b => by rw [← (hr i hi).2.1, ← (hr j hj).2.1, e])
    · simp only [List.mem_map, List.mem_range]
      constructor
      · rintro ⟨i, hi, rfl⟩; exact (hr i hi).2.2
      · intro hg
        obtain ⟨a, ha⟩ := Reach.cof h hf hg
        obtain ⟨sg, g2, _⟩ := Reach.spec h hf hg
        have hn : NonConst (fun b => M.sem f (M.mix (M.depth g) a b)) := by
          have := two_nonconst h sg g2
          obtain ⟨x, y, hxy⟩ := this
          exact ⟨x, y, by show M.sem f _ ≠ M.sem f _; rw [← ha, ← ha]; exact hxy⟩
        obtain ⟨i, hi, hG⟩ := all _ a hn
        refine ⟨i, hi, canon h (hr i hi).1 sg (fun b => ?_)⟩
        rw [(hr i hi).2.1, hG, ha]
  simpa using hl

/-- An upper bound: at each level the cofactors are told apart by a state below s. -/
theorem size_states {M : Mgr} (h : M.WF) {f : Nat} (hf : M.stored f) (s : Nat) (st : Nat → (Nat → Bool) → Nat) (hst : ∀ d a, st d a < s)
    (same : ∀ d a a', st d a = st d a' → ∀ b, M.sem f (M.mix d a b) = M.sem f (M.mix d a' b)) : M.size f ≤ M.n * s := by
  obtain ⟨nd, hm, hs⟩ := nodesOf_spec h hf
  -- each node to a number below n * s
  have ex : ∀ g, ∃ c, g ∈ M.nodesOf f → ∃ a, (∀ b, M.sem g b = M.sem f (M.mix (M.depth g) a b)) ∧ c = M.depth g * s + st (M.depth g) a := fun g => by
    by_cases hg : g ∈ M.nodesOf f
    · obtain ⟨a, ha⟩ := Reach.cof h hf ((hm g).1 hg)
      exact ⟨_, fun _ => ⟨a, ha, rfl⟩⟩
    · exact ⟨0, fun x => (hg x).elim⟩
  obtain ⟨c, hc⟩ := Classical.axiomOfChoice ex
  have hnd : ((M.nodesOf f).map c).Nodup := by
    rw [List.nodup_iff_pairwise_ne, List.pairwise_map]
    rw [List.nodup_iff_pairwise_ne] at nd
    refine nd.imp_of_mem (fun {x y} hx hy hne e => hne ?_)
    obtain ⟨a, ha, ca⟩ := hc x hx
    obtain ⟨b, hb, cb⟩ := hc y hy
    rw [ca, cb] at e
    have h1 := hst (M.depth x) a
    have h2 := hst (M.depth y) b
    have hdd : M.depth x = M.depth y := by
      rcases Nat.lt_trichotomy (M.depth x) (M.depth y) with hlt | heq | hgt
      · have : (M.depth x + 1) * s ≤ M.depth y * s := Nat.mul_le_mul_right _ hlt
        rw [Nat.add_mul] at this; omega
      · exact heq
      · have : (M.depth y + 1) * s ≤ M.depth x * s := Nat.mul_le_mul_right _ hgt
        rw [Nat.add_mul] at this; omega
    rw [hdd] at e ha
    exact canon h (hs x hx).1 (hs y hy).1 (fun z => by rw [ha, hb]; exact same _ _ _ (by omega) z)
  have := nodup_length _ (List.range (M.n * s)) hnd (fun x hx => by
    simp only [List.mem_map] at hx
    obtain ⟨g, hg, rfl⟩ := hx
    obtain ⟨a, _, ca⟩ := hc g hg
    have h1 := hst (M.depth g) a
    have h2 := depth_lt h (hs g hg).1 (hs g hg).2
    have : (M.depth g + 1) * s ≤ M.n * s := Nat.mul_le_mul_right _ h2
    rw [Nat.add_mul] at this
    simp; omega)
  simpa [size] using this

/-! ### how many nodes are made -/

theorem Ext.reach {M M' : Mgr} (h : M.WF) (e : Ext M M') : ∀ {k f g : Nat}, M.stored f → M.Reach k f g → M'.Reach k f g
  | 0, _, _, _, hr => hr.elim
  | k + 1, f, g, hf, hr => by
    obtain ⟨h2, hr⟩ := hr
    obtain ⟨_, _, sl, sh, _, dl, dh⟩ := node_of h hf h2
    refine ⟨h2, ?_⟩
    rw [e.nd f h2 hf]
    rcases hr with hr | hr | hr
    · exact .inl hr
    · exact .inr (.inl (e.reach h sl hr))
    · exact .inr (.inr (e.reach h sh hr))

/-- What 'put' returns, if its children differ. -/
theorem put_nd {M : Mgr} {v lo hi : Nat} (h : M.WF) (ne : lo ≠ hi) : (M.put v lo hi).1.nd (M.put v lo hi).2 = ((v : Int), lo, hi) ∧ 2 ≤ (M.put v lo hi).2 ∧
    (∀ g, M.nodes.length ≤ g → g < (M.put v lo hi).1.nodes.length → g = (M.put v lo hi).2) := by
  unfold put
  rw [if_neg ne]
  cases hf : M.find ((v : Int), lo, hi) with
  | some r =>
    obtain ⟨r2, rl, rn⟩ := find_some hf
    exact ⟨rn, r2, fun g h1 h2 => by simp at h2; omega⟩
  | none =>
    cases hg : M.free.getLast? with
    | some f =>
      obtain ⟨f2, fl, fv⟩ := h.fr f (List.mem_of_getLast? hg)
      exact ⟨by simp [nd, fl], f2, fun g h1 h2 => by simp at h2; omega⟩
    | none => exact ⟨by simp [nd], h.two, fun g h1 h2 => by simp at h2 ⊢; omega⟩

/-- What is made is reached from the result. -/
theorem build_new : ∀ (k : Nat) (M : Mgr), M.WF → k ≤ M.n → ∀ F, M.Reads (M.n - k) F → ∀ g, M.nodes.length ≤ g → g < (build k M F).1.nodes.length → (build k M F).1.Reach (k + 1) (build k M F).2 g
  | 0, M, h, _, F, hF => fun g h1 h2 => by simp [build] at h2; omega
  | k + 1, M, h, hk, F, hF => by
    have hlv := h.lo_ (M.n - (k + 1)) (by omega)
    have r1 := Reads.upd h (by omega) hF false
    have s1 := build_spec k M h (by omega) _ r1
    have i1 := build_new k M h (by omega) _ r1
    have hF2 : M.Reads (M.n - k) (fun a => F (upd a (M.ord (M.n - (k + 1))) true)) := Reads.upd h (by omega) hF true
    have r2 : (build k M (fun a => F (upd a (M.ord (M.n - (k + 1))) false))).1.Reads ((build k M (fun a => F (upd a (M.ord (M.n - (k + 1))) false))).1.n - k) (fun a => F (upd a (M.ord (M.n - (k + 1))) true)) := by rw [s1.ext.n]; exact Reads.ext s1.ext hF2
    have s2 := build_spec k (build k M (fun a => F (upd a (M.ord (M.n - (k + 1))) false))).1 s1.wf (by rw [s1.ext.n]; omega) (fun a => F (upd a (M.ord (M.n - (k + 1))) true)) r2
    have i2 := build_new k (build k M (fun a => F (upd a (M.ord (M.n - (k + 1))) false))).1 s1.wf (by rw [s1.ext.n]; omega) (fun a => F (upd a (M.ord (M.n - (k + 1))) true)) r2
    show ∀ g, M.nodes.length ≤ g → g < (Mgr.put _ _ _ _).1.nodes.length → (Mgr.put _ _ _ _).1.Reach (k + 1 + 1) (Mgr.put _ _ _ _).2 g
    generalize hA : build k M (fun a => F (upd a (M.ord (M.n - (k + 1))) false)) = A at *
    generalize hB : build k A.1 (fun a => F (upd a (M.ord (M.n - (k + 1))) true)) = B at *
    have hn2 : B.1.n = M.n := by rw [s2.ext.n, s1.ext.n]
    have hlev2 : ∀ v, B.1.lev v = M.lev v := fun v => by rw [s2.ext.lev, s1.ext.lev]
    have d1 : B.1.depth A.2 = A.1.depth A.2 := s2.ext.depth s1.st
    have q1 := s1.dep
    have q2 := s2.dep
    rw [s1.ext.n] at q2
    have m := put_spec s2.wf (v := M.ord (M.n - (k + 1))) (lo := A.2) (hi := B.2) (by rw [hn2]; exact hlv.1) (s2.ext.stored s1.st) s2.st (by rw [hlev2, hlv.2, d1]; omega) (by rw [hlev2, hlv.2]; omega)
    intro g h1 h2
    have sA : B.1.stored A.2 := s2.ext.stored s1.st
    -- where g was made
    have old : g < B.1.nodes.length → B.1.Reach (k + 1) A.2 g ∨ B.1.Reach (k + 1) B.2 g := fun hg => by
      rcases Nat.lt_or_ge g A.1.nodes.length with hlt | hge
      · exact .inl (s2.ext.reach s1.wf s1.st (i1 g h1 hlt))
      · exact .inr (i2 g hge hg)
    by_cases e : A.2 = B.2
    · have hp : B.1.put (M.ord (M.n - (k + 1))) A.2 B.2 = (B.1, A.2) := by unfold put; rw [if_pos e]
      rw [hp] at h2 ⊢
      rcases old h2 with x | x
      · exact x.mono (by omega)
      · rw [e]; exact x.mono (by omega)
    · obtain ⟨pn, p2, pg⟩ := put_nd (v := M.ord (M.n - (k + 1))) s2.wf e
      refine ⟨p2, ?_⟩
      rw [pn]
      rcases Nat.lt_or_ge g B.1.nodes.length with hlt | hge
      · rcases old hlt with x | x
        · exact .inr (.inl (m.ext.reach s2.wf sA x))
        · exact .inr (.inr (m.ext.reach s2.wf s2.st x))
      · exact .inl (pg g hge h2)

/-- Building makes at most as many nodes as the result has. -/
theorem build_len {k : Nat} {M : Mgr} (h : M.WF) (hk : k ≤ M.n) {F : (Nat → Bool) → Bool} (hF : M.Reads (M.n - k) F) : (build k M F).1.nodes.length ≤ M.nodes.length + (build k M F).1.size (build k M F).2 := by
  have s := build_spec k M h hk F hF
  have hn := build_new k M h hk F hF
  obtain ⟨nd, hm, _⟩ := nodesOf_spec s.wf s.st
  generalize build k M F = B at *
  have hsub : ∀ x, x ∈ (List.range (B.1.nodes.length - M.nodes.length)).map (fun i => M.nodes.length + i) → x ∈ B.1.nodesOf B.2 := fun x hx => by
    simp only [List.mem_map, List.mem_range] at hx
    obtain ⟨i, hi, rfl⟩ := hx
    exact (hm _).2 (Reach.fuel s.wf s.st (hn _ (by omega) (by omega)) _ (by omega))
  have hnd : ((List.range (B.1.nodes.length - M.nodes.length)).map (fun i => M.nodes.length + i)).Nodup := by
    rw [List.nodup_iff_pairwise_ne, List.pairwise_map]
    have hr : (List.range (B.1.nodes.length - M.nodes.length)).Nodup := List.nodup_range
    rw [List.nodup_iff_pairwise_ne] at hr
    exact hr.imp (fun {i j} hne e => hne (by omega))
  have := nodup_length _ _ hnd hsub
  simp only [List.length_map, List.length_range] at this
  unfold size
  omega

/-- A crude bound. -/
theorem build_pow : ∀ (k : Nat) (M : Mgr), M.WF → k ≤ M.n → ∀ F, M.Reads (M.n - k) F → (build k M F).1.nodes.length ≤ M.nodes.length + (2 ^ k - 1)
  | 0, M, h, _, F, hF => by simp [build]
  | k + 1, M, h, hk, F, hF => by
    have hlv := h.lo_ (M.n - (k + 1)) (by omega)
    have r1 := Reads.upd h (by omega) hF false
    have s1 := build_spec k M h (by omega) _ r1
    have i1 := build_pow k M h (by omega) _ r1
    have hF2 : M.Reads (M.n - k) (fun a => F (upd a (M.ord (M.n - (k + 1))) true)) := Reads.upd h (by omega) hF true
    have r2 : (build k M (fun a => F (upd a (M.ord (M.n - (k + 1))) false))).1.Reads ((build k M (fun a => F (upd a (M.ord (M.n - (k + 1))) false))).1.n - k) (fun a => F (upd a (M.ord (M.n - (k + 1))) true)) := by rw [s1.ext.n]; exact Reads.ext s1.ext hF2
    have s2 := build_spec k (build k M (fun a => F (upd a (M.ord (M.n - (k + 1))) false))).1 s1.wf (by rw [s1.ext.n]; omega) (fun a => F (upd a (M.ord (M.n - (k + 1))) true)) r2
    have i2 := build_pow k (build k M (fun a => F (upd a (M.ord (M.n - (k + 1))) false))).1 s1.wf (by rw [s1.ext.n]; omega) (fun a => F (upd a (M.ord (M.n - (k + 1))) true)) r2
    show (Mgr.put _ _ _ _).1.nodes.length ≤ _
    generalize hA : build k M (fun a => F (upd a (M.ord (M.n - (k + 1))) false)) = A at *
    generalize hB : build k A.1 (fun a => F (upd a (M.ord (M.n - (k + 1))) true)) = B at *
    have hn2 : B.1.n = M.n := by rw [s2.ext.n, s1.ext.n]
    have hlev2 : ∀ v, B.1.lev v = M.lev v := fun v => by rw [s2.ext.lev, s1.ext.lev]
    have d1 : B.1.depth A.2 = A.1.depth A.2 := s2.ext.depth s1.st
    have q1 := s1.dep
    have q2 := s2.dep
    rw [s1.ext.n] at q2
    have m := put_spec s2.wf (v := M.ord (M.n - (k + 1))) (lo := A.2) (hi := B.2) (by rw [hn2]; exact hlv.1) (s2.ext.stored s1.st) s2.st (by rw [hlev2, hlv.2, d1]; omega) (by rw [hlev2, hlv.2]; omega)
    have ml := m.len
    have hp : 0 < 2 ^ k := Nat.pow_pos (by omega)
    rw [Nat.pow_succ]
    omega

end Mgr
end Go.Proofs.Ytngbodmooddjbaa

namespace Go.Proofs.Ytngbodmooddjbaa

/-- How many of the m variables from i on are true. -/
def cnt : Nat → Nat → (Nat → Bool) → Nat
  | _, 0, _ => 0
  | i, m + 1, b => (if b i then 1 else 0) + cnt (i + 1) m b

theorem cnt_le : ∀ (i m : Nat) (b : Nat → Bool), cnt i m b ≤ m
  | _, 0, _ => by simp [cnt]
  | i, m + 1, b => by have := cnt_le (i + 1) m b; simp only [cnt]; split <;> omega

theorem cnt_congr : ∀ (i m : Nat) (a b : Nat → Bool), (∀ v, i ≤ v → v < i + m → a v = b v) → cnt i m a = cnt i m b
  | _, 0, _, _, _ => rfl
  | i, m + 1, a, b, h => by
    simp only [cnt]
    rw [h i (by omega) (by omega), cnt_congr (i + 1) m a b (fun v h1 h2 => h v (by omega) (by omega))]

theorem cnt_add : ∀ (i m k : Nat) (b : Nat → Bool), cnt i (m + k) b = cnt i m b + cnt (i + m) k b
  | i, 0, k, b => by simp [cnt]
  | i, m + 1, k, b => by
    rw [show m + 1 + k = (m + k) + 1 by omega]
    simp only [cnt]
    rw [cnt_add (i + 1) m k b, show i + 1 + m = i + (m + 1) by omega]
    omega

theorem cnt_succ (i m : Nat) (b : Nat → Bool) : cnt i (m + 1) b = cnt i m b + if b (i + m) then 1 else 0 := by
  rw [cnt_add i m 1 b]; simp [cnt]

theorem cnt_false (i m : Nat) : cnt i m (fun _ => false) = 0 := by
  induction m generalizing i with
  | zero => rfl
  | succ m ih => simp [cnt, ih]
theorem cnt_true (i m : Nat) : cnt i m (fun _ => true) = m := by
  induction m generalizing i with
  | zero => rfl
  | succ m ih => simp [cnt, ih]; omega

/-- One variable alone. -/
def sg (x : Nat) : Nat → Bool := fun v => decide (v = x)
theorem cnt_sg_in : ∀ (i m x : Nat), i ≤ x → x < i + m → cnt i m (sg x) = 1
  | _, 0, _, h1, h2 => by omega
  | i, m + 1, x, h1, h2 => by
    simp only [cnt]
    by_cases e : i = x
    · subst e
      rw [cnt_congr (i + 1) m (sg i) (fun _ => false) (fun v h1 h2 => by simp [sg]; omega), cnt_false]
      simp [sg]
    · rw [cnt_sg_in (i + 1) m x (by omega) (by omega)]
      simp [sg, e]
theorem cnt_sg_out (i m x : Nat) (h : x < i ∨ i + m ≤ x) : cnt i m (sg x) = 0 := by
  rw [cnt_congr i m (sg x) (fun _ => false) (fun v h1 h2 => by simp [sg]; omega), cnt_false]

/-- Two variables. -/
def db (x y : Nat) : Nat → Bool := fun v => decide (v = x) || decide (v = y)
theorem cnt_db (i m x y : Nat) (hx : i ≤ x) (hxy : x < y) (hy : y < i + m) : cnt i m (db x y) = 2 := by
  obtain ⟨k, hk⟩ : ∃ k, m = (x + 1 - i) + k := ⟨m - (x + 1 - i), by omega⟩
  rw [hk, cnt_add]
  rw [cnt_congr i (x + 1 - i) (db x y) (sg x) (fun v h1 h2 => by simp [db, sg]; omega), cnt_sg_in _ _ _ hx (by omega)]
  rw [cnt_congr (i + (x + 1 - i)) k (db x y) (sg y) (fun v h1 h2 => by simp [db, sg]; omega), cnt_sg_in _ _ _ (by omega) (by omega)]

namespace Mgr

/-- The order is 0, 1, 2 .. -/
def Plain (M : Mgr) : Prop := ∀ v, v < M.n → M.lev v = v

theorem cnt_mix {M : Mgr} (hp : M.Plain) {k : Nat} (hk : k ≤ M.n) (d : Nat) (a b : Nat → Bool) (hd : d ≤ k) : cnt 0 k (M.mix d a b) = cnt 0 d a + cnt d (k - d) b := by
  obtain ⟨j, hj⟩ : ∃ j, k = d + j := ⟨k - d, by omega⟩
  subst hj
  rw [cnt_add, Nat.zero_add, Nat.add_sub_cancel_left]
  rw [cnt_congr 0 d (M.mix d a b) a (fun v h1 h2 => by unfold mix; rw [hp v (by omega), if_pos (by omega)])]
  rw [cnt_congr d j (M.mix d a b) b (fun v h1 h2 => by unfold mix; rw [hp v (by omega), if_neg (by omega)])]

theorem cnt_mix_far {M : Mgr} (hp : M.Plain) {k : Nat} (hk : k ≤ M.n) (d : Nat) (a b : Nat → Bool) (hd : k ≤ d) : cnt 0 k (M.mix d a b) = cnt 0 k a :=
  cnt_congr 0 k _ _ (fun v h1 h2 => by unfold mix; rw [hp v (by omega), if_pos (by omega)])

/-- At each level the cofactors of F are told apart by a state below s. -/
def States (M : Mgr) (F : (Nat → Bool) → Bool) (s : Nat) : Prop := ∃ st : Nat → (Nat → Bool) → Nat, (∀ d a, st d a < s) ∧ ∀ d a a', st d a = st d a' → ∀ b, F (M.mix d a b) = F (M.mix d a' b)

/-- A function of the number of true variables among the first k, and of variable k. -/
theorem states_cnt {M : Mgr} (hp : M.Plain) {k : Nat} (hk : k ≤ M.n) (psi : Nat → Bool → Bool) (F : (Nat → Bool) → Bool) (hF : ∀ a, F a = psi (cnt 0 k a) (if k < M.n then a k else false)) : M.States F (2 * (k + 1)) := by
  refine ⟨fun d a => 2 * cnt 0 (min d k) a + (if k < d ∧ a k = true then 1 else 0), fun d a => ?_, fun d a a' h b => ?_⟩
  · have := cnt_le 0 (min d k) a
    have hm : min d k ≤ k := Nat.min_le_right _ _
    dsimp only
    split <;> omega
  · dsimp only at h
    have h1 : cnt 0 (min d k) a = cnt 0 (min d k) a' := by split at h <;> split at h <;> omega
    have h2 : k < d → a k = a' k := fun hkd => by
      simp only [hkd, true_and] at h
      cases ha : a k <;> cases ha' : a' k <;> simp [ha, ha'] at h ⊢ <;> omega
    rw [hF, hF]
    have e1 : cnt 0 k (M.mix d a b) = cnt 0 k (M.mix d a' b) := by
      rcases Nat.le_total d k with hdk | hdk
      · rw [cnt_mix hp hk d a b hdk, cnt_mix hp hk d a' b hdk]
        rw [Nat.min_eq_left hdk] at h1
        rw [h1]
      · rw [cnt_mix_far hp hk d a b hdk, cnt_mix_far hp hk d a' b hdk]
        rw [Nat.min_eq_right hdk] at h1
        exact h1
    have e2 : (if k < M.n then M.mix d a b k else false) = (if k < M.n then M.mix d a' b k else false) := by
      split
      · rename_i hkn
        unfold mix
        rw [hp k hkn]
        split
        · exact h2 (by assumption)
        · rfl
      · rfl
    rw [e1, e2]

/-- A cofactor of a function of the number of true variables. -/
theorem cof_cnt {M : Mgr} (hp : M.Plain) {f : Nat} (phi : Nat → Bool) (hs : ∀ a, M.sem f a = phi (cnt 0 M.n a)) (d : Nat) (a b : Nat → Bool) (hd : d ≤ M.n) : M.sem f (M.mix d a b) = phi (cnt 0 d a + cnt d (M.n - d) b) := by
  rw [hs, cnt_mix hp (Nat.le_refl _) d a b hd]

theorem cof_far {M : Mgr} (hp : M.Plain) {f : Nat} (phi : Nat → Bool) (hs : ∀ a, M.sem f a = phi (cnt 0 M.n a)) (d : Nat) (a : Nat → Bool) (hn : NonConst (fun b => M.sem f (M.mix d a b))) : d < M.n := by
  rcases Nat.lt_or_ge d M.n with hd | hd
  · exact hd
  · obtain ⟨x, y, hxy⟩ := hn
    exfalso; apply hxy
    show M.sem f _ = M.sem f _
    rw [hs, hs, cnt_mix_far hp (Nat.le_refl _) d a x hd, cnt_mix_far hp (Nat.le_refl _) d a y hd]

section
variable {M : Mgr} (h : M.WF) (hp : M.Plain) {f : Nat} (hf : M.stored f)
include h hp hf

theorem size_all (hs : ∀ a, M.sem f a = decide (cnt 0 M.n a = M.n)) : M.size f = M.n := by
  refine size_family h hf M.n (fun i b => decide (cnt i (M.n - i) b = M.n - i)) ?_ ?_ ?_ ?_
  · have key : ∀ i j, i < j → j < M.n → (fun b => decide (cnt i (M.n - i) b = M.n - i)) ≠ (fun b => decide (cnt j (M.n - j) b = M.n - j)) := fun i j hij hj e => by
      have := congrFun e (fun v => !decide (v = i))
      simp only [decide_eq_decide] at this
      have c1 : cnt j (M.n - j) (fun v => !decide (v = i)) = M.n - j := by
        rw [cnt_congr j _ _ (fun _ => true) (fun v h1 h2 => by simp; omega), cnt_true]
      have c2 : cnt i (M.n - i) (fun v => !decide (v = i)) ≠ M.n - i := by
        obtain ⟨m, hm⟩ : ∃ m, M.n - i = m + 1 := ⟨M.n - i - 1, by omega⟩
        rw [hm]
        have := cnt_le (i + 1) m (fun v => !decide (v = i))
        simp only [cnt, decide_true, Bool.not_true, Bool.false_eq_true, if_false]
        omega
      exact c2 (this.2 c1)
    intro i j hi hj e
    rcases Nat.lt_trichotomy i j with x | x | x
    · exact (key i j x hj e).elim
    · exact x
    · exact (key j i x hi e.symm).elim
  · intro i hi
    exact ⟨fun _ => true, fun _ => false, by simp only [cnt_true, cnt_false]; simp; omega⟩
  · intro i hi
    refine ⟨i, fun _ => true, fun b => ?_⟩
    rw [cof_cnt hp (fun x => decide (x = M.n)) hs i _ b (by omega), cnt_true]
    have := cnt_le i (M.n - i) b
    simp only [decide_eq_decide]; omega
  · intro d a hn
    have hd := cof_far hp (fun x => decide (x = M.n)) hs d a hn
    have e : ∀ b, M.sem f (M.mix d a b) = decide (cnt 0 d a + cnt d (M.n - d) b = M.n) := fun b => cof_cnt hp (fun x => decide (x = M.n)) hs d a b (by omega)
    have hc : cnt 0 d a = d := by
      obtain ⟨x, y, hxy⟩ := hn
      simp only [e] at hxy
      have l1 := cnt_le 0 d a
      have l2 := cnt_le d (M.n - d) x
      have l3 := cnt_le d (M.n - d) y
      rcases Nat.lt_or_ge (cnt 0 d a) d with hlt | hge
      · exfalso; apply hxy
        simp only [decide_eq_decide]; omega
      · omega
    refine ⟨d, hd, funext fun b => ?_⟩
    rw [e b, hc]
    have := cnt_le d (M.n - d) b
    simp only [decide_eq_decide]; omega

theorem size_one (hs : ∀ a, M.sem f a = decide (1 ≤ cnt 0 M.n a)) : M.size f = M.n := by
  refine size_family h hf M.n (fun i b => decide (1 ≤ cnt i (M.n - i) b)) ?_ ?_ ?_ ?_
  · have key : ∀ i j, i < j → j < M.n → (fun b => decide (1 ≤ cnt i (M.n - i) b)) ≠ (fun b => decide (1 ≤ cnt j (M.n - j) b)) := fun i j hij hj e => by
      have := congrFun e (sg i)
      simp only [decide_eq_decide] at this
      rw [cnt_sg_in i (M.n - i) i (by omega) (by omega), cnt_sg_out j (M.n - j) i (by omega)] at this
      omega
    intro i j hi hj e
    rcases Nat.lt_trichotomy i j with x | x | x
    · exact (key i j x hj e).elim
    · exact x
    · exact (key j i x hi e.symm).elim
  · intro i hi
    exact ⟨fun _ => true, fun _ => false, by simp only [cnt_true, cnt_false]; simp; omega⟩
  · intro i hi
    refine ⟨i, fun _ => false, fun b => ?_⟩
    rw [cof_cnt hp (fun x => decide (1 ≤ x)) hs i _ b (by omega), cnt_false]
    simp
  · intro d a hn
    have hd := cof_far hp (fun x => decide (1 ≤ x)) hs d a hn
    have e : ∀ b, M.sem f (M.mix d a b) = decide (1 ≤ cnt 0 d a + cnt d (M.n - d) b) := fun b => cof_cnt hp (fun x => decide (1 ≤ x)) hs d a b (by omega)
    have hc : cnt 0 d a = 0 := by
      obtain ⟨x, y, hxy⟩ := hn
      simp only [e] at hxy
      rcases Nat.lt_or_ge 0 (cnt 0 d a) with hlt | hge
      · exfalso; apply hxy
        simp only [decide_eq_decide]; omega
      · omega
    refine ⟨d, hd, funext fun b => ?_⟩
    rw [e b, hc]
    simp

theorem size_two (h3 : 3 ≤ M.n) (hs : ∀ a, M.sem f a = decide (2 ≤ cnt 0 M.n a)) : M.size f = 2 * M.n - 2 := by
  refine size_family h hf (2 * M.n - 2) (fun j b => if j < M.n - 1 then decide (2 ≤ cnt j (M.n - j) b) else decide (1 ≤ cnt (j - (M.n - 1) + 1) (M.n - (j - (M.n - 1) + 1)) b)) ?_ ?_ ?_ ?_
  · have key : ∀ i j, i < j → j < 2 * M.n - 2 → (fun b => if i < M.n - 1 then decide (2 ≤ cnt i (M.n - i) b) else decide (1 ≤ cnt (i - (M.n - 1) + 1) (M.n - (i - (M.n - 1) + 1)) b)) ≠
        (fun b => if j < M.n - 1 then decide (2 ≤ cnt j (M.n - j) b) else decide (1 ≤ cnt (j - (M.n - 1) + 1) (M.n - (j - (M.n - 1) + 1)) b)) := fun i j hij hj e => by
      by_cases hi1 : i < M.n - 1
      · by_cases hj1 : j < M.n - 1
        · have := congrFun e (db i (M.n - 1))
          simp only [hi1, hj1, if_true, decide_eq_decide] at this
          rw [cnt_db i (M.n - i) i (M.n - 1) (by omega) (by omega) (by omega)] at this
          rw [cnt_congr j (M.n - j) (db i (M.n - 1)) (sg (M.n - 1)) (fun v h1 h2 => by simp [db, sg]; omega), cnt_sg_in _ _ _ (by omega) (by omega)] at this
          omega
        · have := congrFun e (sg (M.n - 1))
          simp only [hi1, hj1, if_true, if_false, decide_eq_decide] at this
          rw [cnt_sg_in i _ _ (by omega) (by omega), cnt_sg_in _ _ _ (by omega) (by omega)] at this
          omega
      · have hj1 : ¬ j < M.n - 1 := by omega
        have := congrFun e (sg (i - (M.n - 1) + 1))
        simp only [hi1, hj1, if_false, decide_eq_decide] at this
        rw [cnt_sg_in _ _ _ (by omega) (by omega), cnt_sg_out _ _ _ (by omega)] at this
        omega
    intro i j hi hj e
    rcases Nat.lt_trichotomy i j with x | x | x
    · exact (key i j x hj e).elim
    · exact x
    · exact (key j i x hi e.symm).elim
  · intro i hi
    refine ⟨fun _ => true, fun _ => false, ?_⟩
    by_cases hi1 : i < M.n - 1
    · simp only [hi1, if_true, cnt_true, cnt_false]; simp; omega
    · simp only [hi1, if_false, cnt_true, cnt_false]; simp; omega
  · intro i hi
    by_cases hi1 : i < M.n - 1
    · refine ⟨i, fun _ => false, fun b => ?_⟩
      rw [cof_cnt hp (fun x => decide (2 ≤ x)) hs i _ b (by omega), cnt_false]
      simp [hi1]
    · refine ⟨i - (M.n - 1) + 1, sg 0, fun b => ?_⟩
      rw [cof_cnt hp (fun x => decide (2 ≤ x)) hs _ _ b (by omega), cnt_sg_in _ _ _ (by omega) (by omega)]
      simp only [hi1, if_false, decide_eq_decide]; omega
  · intro d a hn
    have hd := cof_far hp (fun x => decide (2 ≤ x)) hs d a hn
    have e : ∀ b, M.sem f (M.mix d a b) = decide (2 ≤ cnt 0 d a + cnt d (M.n - d) b) := fun b => cof_cnt hp (fun x => decide (2 ≤ x)) hs d a b (by omega)
    have l1 := cnt_le 0 d a
    obtain ⟨x, y, hxy⟩ := hn
    simp only [e] at hxy
    have l2 := cnt_le d (M.n - d) x
    have l3 := cnt_le d (M.n - d) y
    rcases Nat.lt_trichotomy (cnt 0 d a) 1 with hlt | heq | hgt
    · have hd2 : d < M.n - 1 := by
        rcases Nat.lt_or_ge d (M.n - 1) with hlt2 | hge2
        · exact hlt2
        · exfalso; apply hxy; simp only [decide_eq_decide]; omega
      refine ⟨d, by omega, funext fun b => ?_⟩
      rw [e b]
      simp only [hd2, if_true, decide_eq_decide]; omega
    · have h1d : 1 ≤ d := by omega
      refine ⟨M.n - 1 + (d - 1), by omega, funext fun b => ?_⟩
      rw [e b]
      have hx : ¬ M.n - 1 + (d - 1) < M.n - 1 := by omega
      have hy : M.n - 1 + (d - 1) - (M.n - 1) + 1 = d := by omega
      simp only [hx, if_false, hy, decide_eq_decide]; omega
    · exfalso; apply hxy; simp only [decide_eq_decide]; omega

/-- The parity, or its negation. -/
theorem size_odd (h1 : 1 ≤ M.n) (c : Nat) (hs : ∀ a, M.sem f a = decide ((cnt 0 M.n a + c) % 2 = 1)) : M.size f = 2 * M.n - 1 := by
  refine size_family h hf (2 * M.n - 1) (fun j b => if j < M.n then decide ((cnt j (M.n - j) b + c) % 2 = 1) else decide ((cnt (j - M.n + 1) (M.n - (j - M.n + 1)) b + c + 1) % 2 = 1)) ?_ ?_ ?_ ?_
  · have key : ∀ i j, i < j → j < 2 * M.n - 1 → (fun b => if i < M.n then decide ((cnt i (M.n - i) b + c) % 2 = 1) else decide ((cnt (i - M.n + 1) (M.n - (i - M.n + 1)) b + c + 1) % 2 = 1)) ≠
        (fun b => if j < M.n then decide ((cnt j (M.n - j) b + c) % 2 = 1) else decide ((cnt (j - M.n + 1) (M.n - (j - M.n + 1)) b + c + 1) % 2 = 1)) := fun i j hij hj e => by
      have z := congrFun e (fun _ => false)
      by_cases hi1 : i < M.n
      · by_cases hj1 : j < M.n
        · have := congrFun e (sg i)
          simp only [hi1, hj1, if_true, decide_eq_decide] at this
          rw [cnt_sg_in i _ _ (by omega) (by omega), cnt_sg_out j _ _ (by omega)] at this
          omega
        · simp only [hi1, hj1, if_true, if_false, decide_eq_decide, cnt_false] at z
          omega
      · have hj1 : ¬ j < M.n := by omega
        have := congrFun e (sg (i - M.n + 1))
        simp only [hi1, hj1, if_false, decide_eq_decide] at this
        rw [cnt_sg_in _ _ _ (by omega) (by omega), cnt_sg_out _ _ _ (by omega)] at this
        omega
    intro i j hi hj e
    rcases Nat.lt_trichotomy i j with x | x | x
    · exact (key i j x hj e).elim
    · exact x
    · exact (key j i x hi e.symm).elim
  · intro i hi
    refine ⟨sg (M.n - 1), fun _ => false, ?_⟩
    by_cases hi1 : i < M.n
    · simp only [hi1, if_true, cnt_false, ne_eq, decide_eq_decide]
      rw [cnt_sg_in _ _ _ (by omega) (by omega)]; omega
    · simp only [hi1, if_false, cnt_false, ne_eq, decide_eq_decide]
      rw [cnt_sg_in _ _ _ (by omega) (by omega)]; omega
  · intro i hi
    by_cases hi1 : i < M.n
    · refine ⟨i, fun _ => false, fun b => ?_⟩
      rw [cof_cnt hp (fun x => decide ((x + c) % 2 = 1)) hs i _ b (by omega), cnt_false]
      simp [hi1]
    · refine ⟨i - M.n + 1, sg 0, fun b => ?_⟩
      rw [cof_cnt hp (fun x => decide ((x + c) % 2 = 1)) hs _ _ b (by omega), cnt_sg_in _ _ _ (by omega) (by omega)]
      simp only [hi1, if_false, decide_eq_decide]; omega
  · intro d a hn
    have hd := cof_far hp (fun x => decide ((x + c) % 2 = 1)) hs d a hn
    have e : ∀ b, M.sem f (M.mix d a b) = decide ((cnt 0 d a + cnt d (M.n - d) b + c) % 2 = 1) := fun b => cof_cnt hp (fun x => decide ((x + c) % 2 = 1)) hs d a b (by omega)
    have l1 := cnt_le 0 d a
    by_cases hc : cnt 0 d a % 2 = 0
    · refine ⟨d, by omega, funext fun b => ?_⟩
      rw [e b]
      simp only [hd, if_true, decide_eq_decide]; omega
    · have h1d : 1 ≤ d := by omega
      refine ⟨M.n + (d - 1), by omega, funext fun b => ?_⟩
      rw [e b]
      have hx : ¬ M.n + (d - 1) < M.n := by omega
      have hy : M.n + (d - 1) - M.n + 1 = d := by omega
      simp only [hx, if_false, hy, decide_eq_decide]; omega
end

end Mgr
end Go.Proofs.Ytngbodmooddjbaa
