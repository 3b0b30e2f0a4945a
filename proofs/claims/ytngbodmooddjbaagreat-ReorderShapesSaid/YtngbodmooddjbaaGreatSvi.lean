/-
  Plain: two managers with the same order, in which the same Refs denote the same functions, save the same lists.
-/
import Derived.Test.YtngbodmooddjbaaGreatSaveP
import Derived.Test.YtngbodmooddjbaaGreatRefV
namespace Go.Proofs.YtngbodmooddjbaaGreat

def AllR (P : Nat → Nat → Prop) : List Nat → List Nat → Prop
  | [], [] => True
  | x :: l, y :: m => P x y ∧ AllR P l m
  | _, _ => False
section
variable {P : Nat → Nat → Prop}
theorem AllR.snoc {x y : Nat} (h : P x y) : ∀ {l m : List Nat}, AllR P l m → AllR P (l ++ [x]) (m ++ [y])
  | [], [], _ => ⟨h, trivial⟩
  | _ :: _, _ :: _, hl => ⟨hl.1, AllR.snoc h hl.2⟩
  | [], _ :: _, hl => hl.elim
  | _ :: _, [], hl => hl.elim
theorem AllR.len : ∀ {l m : List Nat}, AllR P l m → l.length = m.length
  | [], [], _ => rfl
  | _ :: _, _ :: _, hl => by rw [List.length_cons, List.length_cons, AllR.len hl.2]
  | [], _ :: _, hl => hl.elim
  | _ :: _, [], hl => hl.elim
theorem AllR.mem {f g : Nat} (hx : ∀ x y, P x y → (x = f ↔ y = g)) : ∀ {l m : List Nat}, AllR P l m → (f ∈ l ↔ g ∈ m)
  | [], [], _ => by simp
  | x :: _, y :: _, hl => by
    rw [List.mem_cons, List.mem_cons, AllR.mem hx hl.2]
    have := hx x y hl.1
    constructor
    · rintro (e | h)
      · exact .inl (this.1 e.symm).symm
      · exact .inr h
    · rintro (e | h)
      · exact .inl (this.2 e.symm).symm
      · exact .inr h
  | [], _ :: _, hl => hl.elim
  | _ :: _, [], hl => hl.elim
end

/-- f and g denote the same function. -/
def SameF (M M' : Mgr) (f g : Nat) : Prop := M.stored f ∧ M'.stored g ∧ ∀ a, M.sem f a = M'.sem g a
section
variable {M M' : Mgr}
theorem SameF.iff (h : M.WF) (h' : M'.WF) {f g x y : Nat} (s : SameF M M' f g) (t : SameF M M' x y) : x = f ↔ y = g :=
  ⟨fun e => Mgr.canon h' t.2.1 s.2.1 (fun a => by rw [← t.2.2 a, ← s.2.2 a, e]), fun e => Mgr.canon h t.1 s.1 (fun a => by rw [t.2.2 a, s.2.2 a, e])⟩
theorem SameF.node (h : M.WF) (h' : M'.WF) (eo : M'.order = M.order) {f g : Nat} (s : SameF M M' f g) : (f < 2 ∧ f = g) ∨ (2 ≤ f ∧ 2 ≤ g ∧ (M.nd f).1 = (M'.nd g).1 ∧ SameF M M' (M.nd f).2.1 (M'.nd g).2.1 ∧ SameF M M' (M.nd f).2.2 (M'.nd g).2.2) := by
  have en : M'.n = M.n := by unfold Mgr.n; rw [eo]
  have t1 := top_find h s.1
  have t2 := top_find h' s.2.1
  rw [eo, en, show M'.sem g = M.sem f from funext fun a => (s.2.2 a).symm, t1] at t2
  by_cases hf : f < 2
  · rw [if_pos hf] at t2
    have hg : g < 2 := by
      rcases Nat.lt_or_ge g 2 with hg | hg
      · exact hg
      · rw [if_neg (by omega)] at t2; cases t2
    refine .inl ⟨hf, ?_⟩
    have e := s.2.2 (fun _ => false)
    rw [M.sem_const _ _ hf, M'.sem_const _ _ hg] at e
    have h1 : f = 1 ↔ g = 1 := by
      constructor
      · intro x; subst x; simpa using e.symm
      · intro x; subst x; simpa using e
    omega
  · rw [if_neg hf] at t2
    have hg : 2 ≤ g := by
      rcases Nat.lt_or_ge g 2 with hg | hg
      · rw [if_pos hg] at t2; cases t2
      · exact hg
    rw [if_neg (by omega)] at t2
    injection t2 with t2
    obtain ⟨v0, v1, sl, sh, _⟩ := Mgr.node_of h s.1 (by omega)
    obtain ⟨v0', v1', sl', sh', _⟩ := Mgr.node_of h' s.2.1 hg
    refine .inr ⟨by omega, hg, by omega, ⟨sl, sl', fun a => ?_⟩, ⟨sh, sh', fun a => ?_⟩⟩
    · rw [Mgr.sem_lo h s.1 (by omega), Mgr.sem_lo h' s.2.1 hg, s.2.2, t2]
    · rw [Mgr.sem_hi h s.1 (by omega), Mgr.sem_hi h' s.2.1 hg, s.2.2, t2]
def SameS (M M' : Mgr) (s t : List Nat × List Nat) : Prop := AllR (SameF M M') s.1 t.1 ∧ AllR (SameF M M') s.2 t.2
theorem SameS.walk (h : M.WF) (h' : M'.WF) (eo : M'.order = M.order) : ∀ (k : Nat) {s t : List Nat × List Nat} {f g : Nat}, SameS M M' s t → SameF M M' f g → SameS M M' (M.walkS k s f) (M'.walkS k t g)
  | 0, _, _, _, _, r, _ => r
  | k + 1, s, t, f, g, r, e => by
    have hm := AllR.mem (fun x y p => SameF.iff h h' e p) r.1
    rcases SameF.node h h' eo e with ⟨h1, h2⟩ | ⟨h1, h2, h3, h4, h5⟩
    · have hg : g < 2 := by omega
      simp only [Mgr.walkS]
      rw [if_pos (.inl h1), if_pos (.inl hg)]
      exact r
    · simp only [Mgr.walkS]
      by_cases hin : f ∈ s.1
      · rw [if_pos (.inr hin), if_pos (.inr (hm.1 hin))]
        exact r
      · rw [if_neg (by rintro (x | x); omega; exact hin x), if_neg (by rintro (x | x); omega; exact hin (hm.2 x))]
        have r1 := SameS.walk h h' eo k (s := (f :: s.1, s.2)) (t := (g :: t.1, t.2)) ⟨⟨e, r.1⟩, r.2⟩ h4
        have r2 := SameS.walk h h' eo k r1 h5
        exact ⟨r2.1, AllR.snoc e r2.2⟩
end

end Go.Proofs.YtngbodmooddjbaaGreat
