/-
  Plain mathematics: the nodes that are reached from a node, and the order in which they are visited.
-/
import Derived.Test.YtgglkldoclejaaaDoorBdd
namespace Go.Proofs.YtgglkldoclejaaaDoor

/-- The visits of 'walk': what has been seen, what has been visited (each node behind its children). -/
def Mgr.walkS (M : Mgr) : Nat → List Nat × List Nat → Nat → List Nat × List Nat
  | 0, s, _ => s
  | k + 1, s, f =>
    if f < 2 ∨ f ∈ s.1 then s else
    let s1 := walkS M k (f :: s.1, s.2) (M.nd f).2.1
    let s2 := walkS M k s1 (M.nd f).2.2
    (s2.1, s2.2 ++ [f])

theorem Mgr.walkS_len (M : Mgr) : ∀ (k : Nat) (s : List Nat × List Nat) (f : Nat), s.2.length ≤ (M.walkS k s f).2.length
  | 0, _, _ => Nat.le_refl _
  | k + 1, s, f => by
    unfold Mgr.walkS
    split
    · exact Nat.le_refl _
    · have h1 := Mgr.walkS_len M k (f :: s.1, s.2) (M.nd f).2.1
      have h2 := Mgr.walkS_len M k (M.walkS k (f :: s.1, s.2) (M.nd f).2.1) (M.nd f).2.2
      simp only [List.length_append, List.length_singleton]
      simp only at h1
      omega

namespace Mgr

/-- g is no constant and is reached from f. -/
def Reach (M : Mgr) : Nat → Nat → Nat → Prop
  | 0, _, _ => False
  | k + 1, f, g => 2 ≤ f ∧ (g = f ∨ Reach M k (M.nd f).2.1 g ∨ Reach M k (M.nd f).2.2 g)

/-- What has been seen from level d on is closed under children. -/
def Closed (M : Mgr) (d : Nat) (S : List Nat) : Prop := ∀ s, s ∈ S → d ≤ M.depth s → 2 ≤ s → (2 ≤ (M.nd s).2.1 → (M.nd s).2.1 ∈ S) ∧ (2 ≤ (M.nd s).2.2 → (M.nd s).2.2 ∈ S)

structure WalkSpec (M : Mgr) (k f : Nat) (s s' : List Nat × List Nat) (N : List Nat) : Prop where
  vis : s'.2 = s.2 ++ N
  nodup : N.Nodup
  fresh : ∀ g, g ∈ N → g ∉ s.1
  reach : ∀ g, g ∈ N → M.Reach k f g
  seen : ∀ g, g ∈ s'.1 ↔ g ∈ s.1 ∨ g ∈ N
  closed : ∀ d, d ≤ M.depth f → M.Closed (M.depth f) s.1 → M.Closed d s.1 → M.Closed d s'.1
  self : 2 ≤ f → f ∈ s'.1
  deep : ∀ g, g ∈ N → M.stored g ∧ 2 ≤ g ∧ M.depth f ≤ M.depth g

theorem walk_spec {M : Mgr} (h : M.WF) : ∀ (k f : Nat) (s : List Nat × List Nat), M.stored f → M.n - M.depth f < k → ∃ N, WalkSpec M k f s (M.walkS k s f) N
  | 0, f, s, _, hk => by omega
  | k + 1, f, s, hf, hk => by
    by_cases h2 : f < 2
    · refine ⟨[], ?_⟩
      have e : M.walkS (k + 1) s f = s := by unfold walkS; rw [if_pos (.inl h2)]
      rw [e]
      exact ⟨by simp, List.nodup_nil, by simp, by simp, by simp, fun d _ _ hc => hc, fun x => by omega, by simp⟩
    · by_cases hs : f ∈ s.1
      · refine ⟨[], ?_⟩
        have e : M.walkS (k + 1) s f = s := by unfold walkS; rw [if_pos (.inr hs)]
        rw [e]
        exact ⟨by simp, List.nodup_nil, by simp, by simp, by simp, fun d _ _ hc => hc, fun _ => hs, by simp⟩
      · obtain ⟨_, _, sl, sh, _, dl, dh⟩ := node_of h hf (by omega)
        have q1 := depth_le h sl
        have q2 := depth_le h sh
        obtain ⟨N1, w1⟩ := walk_spec h k (M.nd f).2.1 (f :: s.1, s.2) sl (by omega)
        obtain ⟨N2, w2⟩ := walk_spec h k (M.nd f).2.2 (M.walkS k (f :: s.1, s.2) (M.nd f).2.1) sh (by omega)
        have e : M.walkS (k + 1) s f = ((M.walkS k (M.walkS k (f :: s.1, s.2) (M.nd f).2.1) (M.nd f).2.2).1, (M.walkS k (M.walkS k (f :: s.1, s.2) (M.nd f).2.1) (M.nd f).2.2).2 ++ [f]) := by
          conv => lhs; unfold walkS
          rw [if_neg (by simp; exact ⟨by omega, hs⟩)]
        rw [e]
        generalize M.walkS k (f :: s.1, s.2) (M.nd f).2.1 = t1 at *
        generalize M.walkS k t1 (M.nd f).2.2 = t2 at *
        have fN1 : f ∉ N1 := fun x => w1.fresh f x (by simp)
        have fN2 : f ∉ N2 := fun x => w2.fresh f x ((w1.seen f).2 (.inl (by simp)))
        refine ⟨N1 ++ N2 ++ [f], ?_, ?_, ?_, ?_, ?_, ?_, ?_, ?_⟩
        · simp [w2.vis, w1.vis]
        · rw [List.nodup_append]
          refine ⟨?_, by simp, ?_⟩
          · rw [List.nodup_append]
            refine ⟨w1.nodup, w2.nodup, fun a ha b hb e => ?_⟩
            subst e
            exact w2.fresh a hb ((w1.seen a).2 (.inr ha))
          · intro a ha b hb e
            simp at hb
            subst e; subst hb
            rcases List.mem_append.1 ha with x | x
            · exact fN1 x
            · exact fN2 x
        · intro g hg
          simp at hg
          rcases hg with x | x | x
          · exact fun y => w1.fresh g x (by simp [y])
          · exact fun y => w2.fresh g x ((w1.seen g).2 (.inl (by simp [y])))
          · subst x; exact hs
        · intro g hg
          simp at hg
          refine ⟨by omega, ?_⟩
          rcases hg with x | x | x
          · exact .inr (.inl (w1.reach g x))
          · exact .inr (.inr (w2.reach g x))
          · exact .inl x
        · intro g
          simp only [w2.seen, w1.seen, List.mem_cons, List.mem_append, List.not_mem_nil, or_false]
          constructor
          · rintro (((x | x) | x) | x)
            · exact .inr (.inr x)
            · exact .inl x
            · exact .inr (.inl (.inl x))
            · exact .inr (.inl (.inr x))
          · rintro (x | (x | x) | x)
            · exact .inl (.inl (.inr x))
            · exact .inl (.inr x)
            · exact .inr x
            · exact .inl (.inl (.inl x))
        · intro d hd hc0 hcd
          -- the closure behind the two walks
          have c1 : M.Closed (M.depth (M.nd f).2.1) (f :: s.1) := fun g hg hgd hg2 => by
            simp at hg
            rcases hg with x | x
            · subst x; omega
            · have := hc0 g x (by omega) hg2
              exact ⟨fun y => by simp [this.1 y], fun y => by simp [this.2 y]⟩
          have base : ∀ d', M.depth f < d' → M.Closed (M.depth f) s.1 → M.Closed d' (f :: s.1) := fun d' hd' hc g hg hgd hg2 => by
            simp at hg
            rcases hg with x | x
            · subst x; omega
            · have := hc g x (by omega) hg2
              exact ⟨fun y => by simp [this.1 y], fun y => by simp [this.2 y]⟩
          have k1 : M.Closed (M.depth (M.nd f).2.1) t1.1 := w1.closed _ (Nat.le_refl _) c1 c1
          -- at level depth f + 1 all is closed behind both walks
          have a1 : M.Closed (M.depth f + 1) t1.1 := w1.closed _ (by omega) c1 (base _ (by omega) hc0)
          have a2 : M.Closed (M.depth f + 1) t2.1 := w2.closed _ (by omega) (fun g hg hgd hg2 => a1 g hg (by omega) hg2) a1
          have lo_in : 2 ≤ (M.nd f).2.1 → (M.nd f).2.1 ∈ t2.1 := fun x => (w2.seen _).2 (.inl (w1.self x))
          have hi_in : 2 ≤ (M.nd f).2.2 → (M.nd f).2.2 ∈ t2.1 := fun x => w2.self x
          intro g hg hgd hg2
          by_cases gf : g = f
          · subst gf; exact ⟨lo_in, hi_in⟩
          · rcases Nat.lt_or_ge (M.depth f) (M.depth g) with hlt | hge
            · exact a2 g hg (by omega) hg2
            · -- an elder one: it was in s
              have hgs : g ∈ s.1 := by
                rcases (w2.seen g).1 hg with x | x
                · rcases (w1.seen g).1 x with y | y
                  · simp at y
                    exact y.resolve_left gf
                  · have := (w1.deep g y).2.2; omega
                · have := (w2.deep g x).2.2; omega
              have := hcd g hgs hgd hg2
              refine ⟨fun y => ?_, fun y => ?_⟩
              · exact (w2.seen _).2 (.inl ((w1.seen _).2 (.inl (by simp [this.1 y]))))
              · exact (w2.seen _).2 (.inl ((w1.seen _).2 (.inl (by simp [this.2 y]))))
        · intro _
          exact (w2.seen f).2 (.inl ((w1.seen f).2 (.inl (by simp))))
        · intro g hg
          simp at hg
          rcases hg with x | x | x
          · have := w1.deep g x; exact ⟨this.1, this.2.1, by omega⟩
          · have := w2.deep g x; exact ⟨this.1, this.2.1, by omega⟩
          · subst x; exact ⟨hf, by omega, Nat.le_refl _⟩

/-- What is closed and has f has all that is reached from f. -/
theorem closed_reach {M : Mgr} (h : M.WF) {S : List Nat} : ∀ (k f g : Nat), M.stored f → M.Closed (M.depth f) S → (2 ≤ f → f ∈ S) → M.Reach k f g → g ∈ S
  | 0, _, _, _, _, _, hr => hr.elim
  | k + 1, f, g, hf, hc, hin, hr => by
    obtain ⟨h2, hr⟩ := hr
    obtain ⟨_, _, sl, sh, _, dl, dh⟩ := node_of h hf h2
    have := hc f (hin h2) (Nat.le_refl _) h2
    rcases hr with x | x | x
    · subst x; exact hin h2
    · exact closed_reach h k _ g sl (fun s hs hd h2 => hc s hs (by omega) h2) this.1 x
    · exact closed_reach h k _ g sh (fun s hs hd h2 => hc s hs (by omega) h2) this.2 x

theorem nodup_length : ∀ (l m : List Nat), l.Nodup → (∀ x, x ∈ l → x ∈ m) → l.length ≤ m.length
  | [], _, _, _ => by simp
  | a :: l, m, hl, hs => by
    rw [List.nodup_cons] at hl
    have ha := hs a (by simp)
    have := nodup_length l (m.erase a) hl.2 (fun x hx => (List.mem_erase_of_ne (fun e => hl.1 (by rw [← e]; exact hx))).2 (hs x (by simp [hx])))
    rw [List.length_erase_of_mem ha] at this
    have := List.length_pos_of_mem ha
    simp only [List.length_cons]
    omega

/-- The nodes of f, each behind its children. -/
def nodesOf (M : Mgr) (f : Nat) : List Nat := (M.walkS (M.n + 1) ([], []) f).2
def size (M : Mgr) (f : Nat) : Nat := (M.nodesOf f).length

theorem nodesOf_spec {M : Mgr} (h : M.WF) {f : Nat} (hf : M.stored f) : (M.nodesOf f).Nodup ∧ (∀ g, g ∈ M.nodesOf f ↔ M.Reach (M.n + 1) f g) ∧ ∀ g, g ∈ M.nodesOf f → M.stored g ∧ 2 ≤ g := by
  obtain ⟨N, w⟩ := walk_spec h (M.n + 1) f ([], []) hf (by omega)
  have e : M.nodesOf f = N := by unfold nodesOf; rw [w.vis]; simp
  rw [e]
  refine ⟨w.nodup, fun g => ⟨w.reach g, fun hr => ?_⟩, fun g hg => ⟨(w.deep g hg).1, (w.deep g hg).2.1⟩⟩
  have c0 : M.Closed (M.depth f) ([] : List Nat) := fun s hs => by simp at hs
  have hc := w.closed (M.depth f) (Nat.le_refl _) c0 c0
  have := closed_reach h (M.n + 1) f g hf hc w.self hr
  simpa using (w.seen g).1 this

theorem size_le {M : Mgr} (h : M.WF) {f : Nat} (hf : M.stored f) : M.size f ≤ M.nodes.length := by
  obtain ⟨nd, _, hs⟩ := nodesOf_spec h hf
  have hsub : ∀ g, g ∈ M.nodesOf f → g ∈ List.range M.nodes.length := fun g hg => by
    obtain ⟨s, h2⟩ := hs g hg
    rcases s with s | s
    · omega
    · simpa using s.1
  have := nodup_length _ _ nd hsub
  simpa [size] using this

/-- A list without repetition that has just what is reached has the size's length. -/
theorem size_eq {M : Mgr} (h : M.WF) {f : Nat} (hf : M.stored f) {l : List Nat} (hl : l.Nodup) (he : ∀ g, g ∈ l ↔ M.Reach (M.n + 1) f g) : M.size f = l.length := by
  obtain ⟨nd, hm, _⟩ := nodesOf_spec h hf
  have h1 := nodup_length _ _ nd (fun g hg => (he g).2 ((hm g).1 hg))
  have h2 := nodup_length _ _ hl (fun g hg => (hm g).2 ((he g).1 hg))
  unfold size; omega

end Mgr
end Go.Proofs.YtgglkldoclejaaaDoor
