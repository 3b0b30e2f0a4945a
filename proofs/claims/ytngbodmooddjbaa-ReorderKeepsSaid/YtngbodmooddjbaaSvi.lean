/-
  Plain: two managers with the same order, in which the same Refs denote the same functions, save the same lists.
-/
import Derived.Test.YtngbodmooddjbaaSaveP
import Derived.Test.YtngbodmooddjbaaRefP
namespace Go.Proofs.Ytngbodmooddjbaa

def AllR (P : Nat → Nat → Prop) : List Nat → List Nat → Prop
  | [], [] => True
  | x :: l, y :: m => P x y ∧ AllR P l m
  | _, _ => False
section
variable {P : Nat → Nat → Prop}
theorem AllR.snoc {x y : Nat} (h : P x y) : ∀ {l m : List Nat}, AllR P l m → AllR P (l ++ [x]) (m ++ [y])
  | [], [], _ => ⟨h, trivial⟩
  | _ :: _, _ :: _, hl => ⟨hl.1, AllR.snoc h hl.2⟩
  | [], _ :: _, hl => hl.elim
  | _ :: _, [], hl => hl.elim
theorem AllR.len : ∀ {l m : List Nat}, AllR P l m → l.length = m.length
  | [], [], _ => rfl
  | _ :: _, _ :: _, hl => by rw [List.length_cons, List.length_cons, AllR.len hl.2]
  | [], _ :: _, hl => hl.elim
  | _ :: _, [], hl => hl.elim
theorem AllR.rev : ∀ {l m : List Nat}, AllR P l m → AllR P l.reverse m.reverse
  | [], [], _ => trivial
  | _ :: _, _ :: _, hl => by rw [List.reverse_cons, List.reverse_cons]; exact AllR.snoc hl.1 (AllR.rev hl.2)
  | [], _ :: _, hl => hl.elim
  | _ :: _, [], hl => hl.elim
theorem AllR.take : ∀ (k : Nat) {l m : List Nat}, AllR P l m → AllR P (l.take k) (m.take k)
  | 0, _, _, _ => trivial
  | _ + 1, [], [], _ => trivial
  | k + 1, _ :: _, _ :: _, hl => ⟨hl.1, AllR.take k hl.2⟩
  | _ + 1, [], _ :: _, hl => hl.elim
  | _ + 1, _ :: _, [], hl => hl.elim
theorem AllR.at_ : ∀ (i : Nat) {l m : List Nat}, AllR P l m → i < l.length → P (l.getD i 0) (m.getD i 0)
  | _, [], _, _, hi => by simp at hi
  | 0, _ :: _, _ :: _, hl, _ => hl.1
  | i + 1, _ :: _, _ :: _, hl, hi => AllR.at_ i hl.2 (by rw [List.length_cons] at hi; omega)
  | _, _ :: _, [], hl, _ => hl.elim
theorem AllR.mem {f g : Nat} (hx : ∀ x y, P x y → (x = f ↔ y = g)) : ∀ {l m : List Nat}, AllR P l m → (f ∈ l ↔ g ∈ m)
  | [], [], _ => by simp
  | x :: _, y :: _, hl => by
    rw [List.mem_cons, List.mem_cons, AllR.mem hx hl.2]
    have := hx x y hl.1
    constructor
    · rintro (e | h)
      · exact .inl (this.1 e.symm).symm
      · exact .inr h
    · rintro (e | h)
      · exact .inl (this.2 e.symm).symm
      · exact .inr h
  | [], _ :: _, hl => hl.elim
  | _ :: _, [], hl => hl.elim
theorem AllR.look {f g : Nat} (hx : ∀ x y, P x y → (x = f ↔ y = g)) : ∀ {l m : List Nat}, AllR P l m → lookR l f = lookR m g
  | [], [], _ => rfl
  | x :: _, y :: _, hl => by
    have := hx x y hl.1
    have hl2 := AllR.len hl.2
    simp only [lookR]
    by_cases e : x = f
    · rw [if_pos e.symm, if_pos (this.1 e).symm, hl2]
    · rw [if_neg (fun h => e h.symm), if_neg (fun h => e (this.2 h.symm)), AllR.look hx hl.2]
  | [], _ :: _, hl => hl.elim
  | _ :: _, [], hl => hl.elim
end

/-- f and g denote the same function. -/
def SameF (M M' : Mgr) (f g : Nat) : Prop := M.stored f ∧ M'.stored g ∧ ∀ a, M.sem f a = M'.sem g a
section
variable {M M' : Mgr}
theorem SameF.iff (h : M.WF) (h' : M'.WF) {f g x y : Nat} (s : SameF M M' f g) (t : SameF M M' x y) : x = f ↔ y = g :=
  ⟨fun e => Mgr.canon h' t.2.1 s.2.1 (fun a => by rw [← t.2.2 a, ← s.2.2 a, e]), fun e => Mgr.canon h t.1 s.1 (fun a => by rw [t.2.2 a, s.2.2 a, e])⟩
theorem SameF.node (h : M.WF) (h' : M'.WF) (eo : M'.order = M.order) {f g : Nat} (s : SameF M M' f g) : (f < 2 ∧ f = g) ∨ (2 ≤ f ∧ 2 ≤ g ∧ (M.nd f).1 = (M'.nd g).1 ∧ SameF M M' (M.nd f).2.1 (M'.nd g).2.1 ∧ SameF M M' (M.nd f).2.2 (M'.nd g).2.2) := by
  have en : M'.n = M.n := by unfold Mgr.n; rw [eo]
  have t1 := top_find h s.1
  have t2 := top_find h' s.2.1
  rw [eo, en, show M'.sem g = M.sem f from funext fun a => (s.2.2 a).symm, t1] at t2
  by_cases hf : f < 2
  · rw [if_pos hf] at t2
    have hg : g < 2 := by
      rcases Nat.lt_or_ge g 2 with hg | hg
      · exact hg
      · rw [if_neg (by omega)] at t2; cases t2
    refine .inl ⟨hf, ?_⟩
    have e := s.2.2 (fun _ => false)
    rw [M.sem_const _ _ hf, M'.sem_const _ _ hg] at e
    have h1 : f = 1 ↔ g = 1 := by
      constructor
      · intro x; subst x; simpa using e.symm
      · intro x; subst x; simpa using e
    omega
  · rw [if_neg hf] at t2
    have hg : 2 ≤ g := by
      rcases Nat.lt_or_ge g 2 with hg | hg
      · rw [if_pos hg] at t2; cases t2
      · exact hg
    rw [if_neg (by omega)] at t2
    injection t2 with t2
    obtain ⟨v0, v1, sl, sh, _⟩ := Mgr.node_of h s.1 (by omega)
    obtain ⟨v0', v1', sl', sh', _⟩ := Mgr.node_of h' s.2.1 hg
    refine .inr ⟨by omega, hg, by omega, ⟨sl, sl', fun a => ?_⟩, ⟨sh, sh', fun a => ?_⟩⟩
    · rw [Mgr.sem_lo h s.1 (by omega), Mgr.sem_lo h' s.2.1 hg, s.2.2, t2]
    · rw [Mgr.sem_hi h s.1 (by omega), Mgr.sem_hi h' s.2.1 hg, s.2.2, t2]
def SameS (M M' : Mgr) (s t : List Nat × List Nat) : Prop := AllR (SameF M M') s.1 t.1 ∧ AllR (SameF M M') s.2 t.2
theorem SameS.walk (h : M.WF) (h' : M'.WF) (eo : M'.order = M.order) : ∀ (k : Nat) {s t : List Nat × List Nat} {f g : Nat}, SameS M M' s t → SameF M M' f g → SameS M M' (M.walkS k s f) (M'.walkS k t g)
  | 0, _, _, _, _, r, _ => r
  | k + 1, s, t, f, g, r, e => by
    have hm := AllR.mem (fun x y p => SameF.iff h h' e p) r.1
    rcases SameF.node h h' eo e with ⟨h1, h2⟩ | ⟨h1, h2, h3, h4, h5⟩
    · have hg : g < 2 := by omega
      simp only [Mgr.walkS]
      rw [if_pos (.inl h1), if_pos (.inl hg)]
      exact r
    · simp only [Mgr.walkS]
      by_cases hin : f ∈ s.1
      · rw [if_pos (.inr hin), if_pos (.inr (hm.1 hin))]
        exact r
      · rw [if_neg (by rintro (x | x); omega; exact hin x), if_neg (by rintro (x | x); omega; exact hin (hm.2 x))]
        have r1 := SameS.walk h h' eo k (s := (f :: s.1, s.2)) (t := (g :: t.1, t.2)) ⟨⟨e, r.1⟩, r.2⟩ h4
        have r2 := SameS.walk h h' eo k r1 h5
        exact ⟨r2.1, AllR.snoc e r2.2⟩
theorem SameS.code (h : M.WF) (h' : M'.WF) (eo : M'.order = M.order) {V V' : List Nat} (r : AllR (SameF M M') V V') {f g : Nat} (e : SameF M M' f g) : code0 V f = code0 V' g := by
  have hl := AllR.look (fun x y p => SameF.iff h h' e p) r.rev
  have e1 : ∀ (W : List Nat) (g : Nat), idxF W (g : Int) = (match lookR W.reverse g with | some i => some (i + 2) | none => if g < 2 then some g else none) := fun W g => by
    unfold idxF
    rw [if_pos (Int.natCast_nonneg g)]
    simp only [Int.toNat_natCast]
    cases lookR W.reverse g <;> rfl
  unfold code0
  rw [e1, e1, hl]
  cases lookR V'.reverse g with
  | some i => rfl
  | none =>
    rcases SameF.node h h' eo e with ⟨h1, h2⟩ | ⟨h1, h2, _⟩
    · rw [h2]
    · show (if f < 2 then some f else none).getD 0 = (if g < 2 then some g else none).getD 0
      rw [if_neg (by omega), if_neg (by omega)]
theorem SameS.nodes (h : M.WF) (h' : M'.WF) (eo : M'.order = M.order) {V V' : List Nat} (r : AllR (SameF M M') V V') (h2 : ∀ f, f ∈ V → 2 ≤ f) : saveN M V = saveN M' V' := by
  unfold saveN
  rw [← r.len]
  apply List.map_congr_left
  intro i hi
  have hi' : i < V.length := by simpa using hi
  have e := AllR.at_ i r hi'
  have hm : V.getD i 0 ∈ V := by rw [List.getD_eq_getElem?_getD, List.getElem?_eq_getElem hi']; exact List.getElem_mem hi'
  have hge := h2 _ hm
  rcases SameF.node h h' eo e with ⟨h1, _⟩ | ⟨_, _, h3, h4, h5⟩
  · omega
  · rw [h3, SameS.code h h' eo (r.take (i + 1)) h4, SameS.code h h' eo (r.take (i + 1)) h5]
theorem save_same (h : M.WF) (h' : M'.WF) (eo : M'.order = M.order) (fs : List Int) (hv : ∀ f, f ∈ fs → M.valid f = true ∧ M'.valid f = true ∧ ∀ a, M.sem f.toNat a = M'.sem f.toNat a) :
    saveN M (saveM M fs).1.2 = saveN M' (saveM M' fs).1.2 ∧ (saveM M fs).2 = (saveM M' fs).2 := by
  have en : M'.n = M.n := by unfold Mgr.n; rw [eo]
  have key : SameS M M' (saveM M fs).1 (saveM M' fs).1 := by
    rw [walkAll_save fs (fun f hf => (hv f hf).1), walkAll_save fs (fun f hf => (hv f hf).2.1)]
    have : ∀ (rs : List Int) (s t : List Nat × List Nat), (∀ f, f ∈ rs → f ∈ fs) → SameS M M' s t → SameS M M' ((rs.map Int.toNat).foldl (fun s f => M.walkS (M.n + 1) s f) s) ((rs.map Int.toNat).foldl (fun s f => M'.walkS (M'.n + 1) s f) t) := by
      intro rs
      induction rs with
      | nil => intro s t _ r; exact r
      | cons f rs ih =>
        intro s t hs r
        obtain ⟨v1, v2, v3⟩ := hv f (hs f (.head _))
        obtain ⟨k1, rfl, s1, _⟩ := Mgr.valid_nat h v1
        obtain ⟨k2, e2, s2, _⟩ := Mgr.valid_nat h' v2
        have : k2 = k1 := by omega
        subst this
        rw [List.map_cons, List.foldl_cons, List.foldl_cons]
        refine ih _ _ (fun g hg => hs g (.tail _ hg)) ?_
        rw [en]
        exact SameS.walk h h' eo _ r ⟨by rw [Int.toNat_natCast]; exact s1, by rw [Int.toNat_natCast]; exact s2, v3⟩
    exact this fs _ _ (fun _ h => h) ⟨trivial, trivial⟩
  have a := saveM_all h fs
  have a' := saveM_all h' fs
  refine ⟨SameS.nodes h h' eo key.2 (fun f hf => (a.v.st f hf).2), List.ext_getElem? fun i => ?_⟩
  by_cases hi : i < fs.length
  · have hf : fs[i]? = some fs[i] := List.getElem?_eq_getElem hi
    obtain ⟨v1, v2, v3⟩ := hv fs[i] (List.getElem_mem hi)
    obtain ⟨k1, e1, s1, _⟩ := Mgr.valid_nat h v1
    obtain ⟨k2, e2, s2, _⟩ := Mgr.valid_nat h' v2
    have : k2 = k1 := by omega
    subst this
    rw [a.root i _ hf, a'.root i _ hf, if_pos v1, if_pos v2]
    rw [e1, Int.toNat_natCast] at v3 ⊢
    rw [SameS.code h h' eo key.2 ⟨s1, s2, v3⟩]
  · rw [List.getElem?_eq_none (by have := a.len; omega), List.getElem?_eq_none (by have := a'.len; omega)]
end

end Go.Proofs.Ytngbodmooddjbaa
