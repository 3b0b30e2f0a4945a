/-
  Plain mathematics: what the reference's 'Top', 'Index', 'Constant', 'visit' find at the tables of stored functions.
-/
import Derived.Test.YtngbodmooddjbaaRefT
import Derived.Test.YtngbodmooddjbaaSaveP
namespace Go.Proofs.Ytngbodmooddjbaa

theorem upto_sem {M : Mgr} (h : M.WF) {f : Nat} (hf : M.stored f) : Upto M.n (M.sem f) := fun a b hab => Mgr.sem_reads h hf a b (fun v hv _ => hab v hv)

theorem dep_above {M : Mgr} (h : M.WF) {f : Nat} (hf : M.stored f) {i : Nat} (hi : i < M.depth f) : depT M.n (M.sem f) (M.ord i) = false := by
  have hd := Mgr.depth_le h hf
  have hl := (h.lo_ i (by omega)).2
  cases e : depT M.n (M.sem f) (M.ord i) with
  | false => rfl
  | true =>
    obtain ⟨a, ha⟩ := (depT_iff (upto_sem h hf)).1 e
    exact (ha (by rw [Mgr.sem_upd h hf _ _ _ (by rw [hl]; exact hi), Mgr.sem_upd h hf _ _ _ (by rw [hl]; exact hi)])).elim

theorem dep_at {M : Mgr} (h : M.WF) {f : Nat} (hf : M.stored f) (h2 : 2 ≤ f) : M.ord (M.depth f) = (M.nd f).1.toNat ∧ depT M.n (M.sem f) (M.nd f).1.toNat = true := by
  obtain ⟨v0, v1, _⟩ := Mgr.node_of h hf h2
  have hd : M.depth f = M.lev (M.nd f).1.toNat := by unfold Mgr.depth; rw [if_neg (by omega)]
  refine ⟨by rw [hd]; exact (h.ol _ (by omega)).2, (depT_iff (upto_sem h hf)).2 ?_⟩
  apply Classical.byContradiction
  intro hno
  exact Mgr.not_indep h (fun f g sf sg e => Mgr.canon h sf sg e) hf h2 (fun a => Classical.byContradiction fun hne => hno ⟨a, hne⟩)

/-- The variable that 'Top' of the reference finds. -/
theorem top_find {M : Mgr} (h : M.WF) {f : Nat} (hf : M.stored f) : M.order.find? (depT M.n (M.sem f)) = if f < 2 then none else some (M.nd f).1.toNat := by
  have hn : M.order.length = M.n := rfl
  by_cases h2 : f < 2
  · rw [if_pos h2]
    refine find_none_of (fun i hi => dep_above h hf ?_)
    rw [M.depth_const h2]; exact hi
  · rw [if_neg h2]
    obtain ⟨e1, e2⟩ := dep_at h hf (by omega)
    have hd := Mgr.depth_lt h hf (by omega)
    have := find_some_of (n := M.n) (F := M.sem f) (ol := M.order) (k := M.depth f) (by omega) (fun i hi => dep_above h hf hi) (by rw [show M.order.getD (M.depth f) 0 = M.ord (M.depth f) from rfl, e1]; exact e2)
    rw [this, show M.order.getD (M.depth f) 0 = M.ord (M.depth f) from rfl, e1]

theorem tab_lo {M : Mgr} (h : M.WF) {f : Nat} (hf : M.stored f) (h2 : 2 ≤ f) : (fun a => M.sem f (Mgr.upd a (M.nd f).1.toNat false)) = M.sem (M.nd f).2.1 := funext fun a => (Mgr.sem_lo h hf h2 a).symm
theorem tab_hi {M : Mgr} (h : M.WF) {f : Nat} (hf : M.stored f) (h2 : 2 ≤ f) : (fun a => M.sem f (Mgr.upd a (M.nd f).1.toNat true)) = M.sem (M.nd f).2.2 := funext fun a => (Mgr.sem_hi h hf h2 a).symm

theorem eqT_sem {M : Mgr} (h : M.WF) {f g : Nat} (hf : M.stored f) (hg : M.stored g) : eqT M.n (M.sem g) (M.sem f) = decide (g = f) := by
  unfold eqT
  rw [decide_eq_decide, tab_eq (upto_sem h hg) (upto_sem h hf)]
  exact ⟨fun e => Mgr.canon h hg hf e, fun e => by rw [e]; exact fun _ => rfl⟩

theorem idxT_mem {M : Mgr} (h : M.WF) {V : List Nat} (hV : ∀ g, g ∈ V → M.stored g) {f : Nat} (hf : M.stored f) : (f ∈ V → ∃ i : Nat, V[i]? = some f ∧ idxT M.n (V.map M.sem) (M.sem f) = (i : Int)) ∧ (f ∉ V → idxT M.n (V.map M.sem) (M.sem f) = -1) := by
  have hx : ∀ g, g ∈ V → eqT M.n (M.sem g) (M.sem f) = decide (g = f) := fun g hg => eqT_sem h hf (hV g hg)
  constructor
  · intro hm
    cases e : (V.map M.sem).findIdx? (fun G => eqT M.n G (M.sem f)) with
    | none =>
      rw [List.findIdx?_eq_none_iff] at e
      have := e (M.sem f) (List.mem_map.2 ⟨f, hm, rfl⟩)
      rw [hx f hm] at this
      simp at this
    | some i =>
      refine ⟨i, ?_, by unfold idxT; rw [e]⟩
      rw [List.findIdx?_eq_some_iff_getElem] at e
      obtain ⟨hi, h1, _⟩ := e
      have hi' : i < V.length := by simpa using hi
      rw [List.getElem_map, hx _ (List.getElem_mem _)] at h1
      have : V[i] = f := by simpa using h1
      rw [List.getElem?_eq_getElem hi', this]
  · intro hm
    have : (V.map M.sem).findIdx? (fun G => eqT M.n G (M.sem f)) = none := by
      rw [List.findIdx?_eq_none_iff]
      intro x hx'
      obtain ⟨g, hg, rfl⟩ := List.mem_map.1 hx'
      rw [hx g hg]
      exact decide_eq_false (fun e => hm (e ▸ hg))
    unfold idxT; rw [this]

/-- The code of a function among the listed ones. -/
theorem code_idx {M : Mgr} (h : M.WF) {V : List Nat} (hV : ∀ g, g ∈ V → M.stored g ∧ 2 ≤ g) (hn : V.Nodup) {f : Nat} (hf : M.stored f) (hin : 2 ≤ f → f ∈ V) : (if f < 2 then (f : Int) else idxT M.n (V.map M.sem) (M.sem f) + 2) = (code0 V f : Int) := by
  by_cases h2 : f < 2
  · rw [if_pos h2, code0_low h2 (fun hm => by have := (hV f hm).2; omega)]
  · rw [if_neg h2]
    obtain ⟨i, hi, e⟩ := (idxT_mem h (fun g hg => (hV g hg).1) hf).1 (hin (by omega))
    rw [e, code0_at hn hi]
    omega

/-- The support of the reference is the manager's. -/
theorem supp_ref {M : Mgr} (h : M.WF) {f : Nat} (hf : M.stored f) : ((List.range M.n).filter fun u => depT M.n (M.sem f) u) = M.supp f := by
  unfold Mgr.supp
  refine List.filter_congr (fun v hv => ?_)
  have hv' : v < M.n := by simpa using hv
  have h1 := Mgr.supp_iff h hf v
  unfold Mgr.supp at h1
  rw [List.mem_filter] at h1
  rw [Bool.eq_iff_iff, depT_iff (upto_sem h hf)]
  constructor
  · intro hx; exact (h1.2 ⟨hv', hx⟩).2
  · intro hx; exact (h1.1 ⟨hv, hx⟩).2

/-- Seen but not visited: only above the function at hand. -/
structure SeenB (M : Mgr) (d : Nat) (s : List Nat × List Nat) : Prop where
  up : ∀ g, g ∈ s.1 → d ≤ M.depth g → g ∈ s.2
  dn : ∀ g, g ∈ s.2 → g ∈ s.1
  st : ∀ g, g ∈ s.2 → M.stored g

theorem SeenB.lo {M : Mgr} {f : Nat} {s : List Nat × List Nat} (b : SeenB M (M.depth f) s) {d : Nat} (hd : M.depth f < d) : SeenB M d (f :: s.1, s.2) :=
  ⟨fun g hg hdg => by
    rcases List.mem_cons.1 hg with rfl | hg
    · omega
    · exact b.up g hg (by omega), fun g hg => List.mem_cons_of_mem _ (b.dn g hg), b.st⟩
theorem SeenB.walk {M : Mgr} (h : M.WF) {k f d : Nat} {s : List Nat × List Nat} (hf : M.stored f) (hk : M.n - M.depth f < k) (b : SeenB M d s) : SeenB M d (M.walkS k s f) := by
  obtain ⟨N, sp⟩ := Mgr.walk_spec h k f s hf hk
  refine ⟨fun g hg hd => ?_, fun g hg => ?_, fun g hg => ?_⟩
  · rw [sp.vis, List.mem_append]
    rcases (sp.seen g).1 hg with x | x
    · exact .inl (b.up g x hd)
    · exact .inr x
  · rw [sp.vis, List.mem_append] at hg
    exact (sp.seen g).2 (hg.imp (b.dn g) id)
  · rw [sp.vis, List.mem_append] at hg
    rcases hg with hg | hg
    · exact b.st g hg
    · exact (sp.deep g hg).1
theorem SeenB.of_seen {M : Mgr} {s : List Nat × List Nat} (v : SeenV M s) (d : Nat) : SeenB M d s := ⟨fun g hg _ => (v.mem g).1 hg, fun g hg => (v.mem g).2 hg, fun g hg => (v.st g hg).1⟩

/-- All the nodes of some functions. -/
def walkAll (M : Mgr) (rs : List Nat) : List Nat × List Nat := rs.foldl (fun s f => M.walkS (M.n + 1) s f) ([], [])
theorem walkAll_snoc (M : Mgr) (rs : List Nat) (f : Nat) : walkAll M (rs ++ [f]) = M.walkS (M.n + 1) (walkAll M rs) f := by simp [walkAll, List.foldl_append]
theorem walkAll_one (M : Mgr) (f : Nat) : (walkAll M [f]).2 = M.nodesOf f := rfl
theorem walkAll_seen {M : Mgr} (h : M.WF) : ∀ (rs : List Nat), (∀ f, f ∈ rs → M.stored f) → SeenV M (walkAll M rs) := by
  have : ∀ (rs : List Nat) s, SeenV M s → (∀ f, f ∈ rs → M.stored f) → SeenV M (rs.foldl (fun s f => M.walkS (M.n + 1) s f) s) := by
    intro rs
    induction rs with
    | nil => intro s hs _; exact hs
    | cons f rs ih => intro s hs hr; rw [List.foldl_cons]; exact ih _ (hs.walk h (hr f (by simp))) (fun g hg => hr g (by simp [hg]))
  exact fun rs hr => this rs _ (SeenV.nil M) hr
theorem walkAll_save {M : Mgr} (fs : List Int) (hv : ∀ f, f ∈ fs → M.valid f = true) : (saveM M fs).1 = walkAll M (fs.map Int.toNat) := by
  have : ∀ (fs : List Int) st, (∀ f, f ∈ fs → M.valid f = true) → (fs.foldl (saveStep M) st).1 = (fs.map Int.toNat).foldl (fun s f => M.walkS (M.n + 1) s f) st.1 := by
    intro fs
    induction fs with
    | nil => intro st _; rfl
    | cons f fs ih =>
      intro st hv
      rw [List.foldl_cons, List.map_cons, List.foldl_cons, ih _ (fun g hg => hv g (by simp [hg]))]
      unfold saveStep
      rw [if_pos (hv f (by simp))]
  exact this fs _ hv

end Go.Proofs.Ytngbodmooddjbaa
