/-
  Plain mathematics: conjunctions of literals; functions that have one node a level.
-/
import Derived.Test.YtngbodmooddjbaaSup
import Derived.Test.YtngbodmooddjbaaOps
namespace Go.Proofs.Ytngbodmooddjbaa
namespace Mgr

/-- At most one cofactor of each level is not constant. -/
def OneLevel (M : Mgr) (F : (Nat → Bool) → Bool) : Prop := ∀ d a a', NonConst (fun b => F (M.mix d a b)) → NonConst (fun b => F (M.mix d a' b)) → ∀ b, F (M.mix d a b) = F (M.mix d a' b)

theorem size_supp {M : Mgr} (h : M.WF) {f : Nat} (hf : M.stored f) (h1 : M.OneLevel (M.sem f)) : M.size f = (M.supp f).length := by
  obtain ⟨nd, hm, hst⟩ := nodesOf_spec h hf
  have hl : M.size f = ((M.nodesOf f).map fun g => (M.nd g).1.toNat).length := by simp [size]
  have mem : ∀ v, v ∈ (M.nodesOf f).map (fun g => (M.nd g).1.toNat) ↔ v ∈ M.supp f := fun v => by
    rw [List.mem_map, mem_supp]
    constructor
    · rintro ⟨g, hg, rfl⟩
      obtain ⟨sg, g2⟩ := hst g hg
      obtain ⟨a, b, _⟩ := node_of h sg g2
      exact ⟨by omega, g, hg, by omega⟩
    · rintro ⟨_, g, hg, e⟩
      exact ⟨g, hg, by omega⟩
  have nd1 : ((M.nodesOf f).map fun g => (M.nd g).1.toNat).Nodup := by
    rw [List.nodup_iff_pairwise_ne, List.pairwise_map]
    rw [List.nodup_iff_pairwise_ne] at nd
    refine nd.imp_of_mem (fun {g k} hg hk hne e => hne ?_)
    obtain ⟨sg, g2⟩ := hst g hg
    obtain ⟨sk, k2⟩ := hst k hk
    obtain ⟨a, ha⟩ := Reach.cof h hf ((hm g).1 hg)
    obtain ⟨a', ha'⟩ := Reach.cof h hf ((hm k).1 hk)
    have dg : M.depth g = M.lev (M.nd g).1.toNat := by unfold depth; rw [if_neg (by omega)]
    have dk : M.depth k = M.lev (M.nd k).1.toNat := by unfold depth; rw [if_neg (by omega)]
    have hd : M.depth k = M.depth g := by rw [dg, dk, e]
    rw [hd] at ha'
    refine canon h sg sk (fun b => ?_)
    rw [ha, ha']
    refine h1 _ a a' ?_ ?_ b
    · obtain ⟨x, y, hxy⟩ := two_nonconst h sg g2
      exact ⟨x, y, by show M.sem f _ ≠ M.sem f _; rw [← ha, ← ha]; exact hxy⟩
    · obtain ⟨x, y, hxy⟩ := two_nonconst h sk k2
      exact ⟨x, y, by show M.sem f _ ≠ M.sem f _; rw [← ha', ← ha']; exact hxy⟩
  have nd2 : (M.supp f).Nodup := (M.supp_sorted f).imp (fun h => by omega)
  have l1 := nodup_length _ _ nd1 (fun v hv => (mem v).1 hv)
  have l2 := nodup_length _ _ nd2 (fun v hv => (mem v).2 hv)
  omega
end Mgr

abbrev Lit2 := Nat × Bool
/-- A conjunction of literals. -/
def cubeF (ls : List Lit2) : (Nat → Bool) → Bool := fun a => ls.all fun x => a x.1 == x.2

theorem cubeF_snoc (ls : List Lit2) (x : Lit2) (a : Nat → Bool) : cubeF (ls ++ [x]) a = (cubeF ls a && (a x.1 == x.2)) := by simp [cubeF]

/-- What is decided above level d, and what is left. -/
def cubeLo (M : Mgr) (d : Nat) (ls : List Lit2) (a : Nat → Bool) : Bool := ls.all fun x => decide (d ≤ M.lev x.1) || a x.1 == x.2
def cubeHi (M : Mgr) (d : Nat) (ls : List Lit2) (b : Nat → Bool) : Bool := ls.all fun x => decide (M.lev x.1 < d) || b x.1 == x.2
theorem cube_mix (M : Mgr) (d : Nat) (ls : List Lit2) (a b : Nat → Bool) : cubeF ls (M.mix d a b) = (cubeLo M d ls a && cubeHi M d ls b) := by
  induction ls with
  | nil => rfl
  | cons x ls ih =>
    have e : cubeF (x :: ls) (M.mix d a b) = ((M.mix d a b x.1 == x.2) && cubeF ls (M.mix d a b)) := by simp [cubeF]
    have e1 : cubeLo M d (x :: ls) a = ((decide (d ≤ M.lev x.1) || a x.1 == x.2) && cubeLo M d ls a) := by simp [cubeLo]
    have e2 : cubeHi M d (x :: ls) b = ((decide (M.lev x.1 < d) || b x.1 == x.2) && cubeHi M d ls b) := by simp [cubeHi]
    rw [e, e1, e2, ih]
    unfold Mgr.mix
    by_cases h : M.lev x.1 < d
    · rw [if_pos h]
      have h2 : ¬ d ≤ M.lev x.1 := by omega
      simp only [h, h2, decide_true, decide_false, Bool.false_or, Bool.true_or, Bool.true_and]
      cases (a x.1 == x.2) <;> cases cubeLo M d ls a <;> cases cubeHi M d ls b <;> rfl
    · rw [if_neg h]
      have h2 : d ≤ M.lev x.1 := by omega
      simp only [h, h2, decide_true, decide_false, Bool.false_or, Bool.true_or, Bool.true_and]
      cases (b x.1 == x.2) <;> cases cubeLo M d ls a <;> cases cubeHi M d ls b <;> rfl

theorem cube_states (M : Mgr) (ls : List Lit2) : M.States (cubeF ls) 2 := by
  refine ⟨fun d a => if cubeLo M d ls a then 1 else 0, fun d a => by show (if _ then _ else _) < 2; split <;> omega, fun d a a' h b => ?_⟩
  rw [cube_mix, cube_mix]
  cases h1 : cubeLo M d ls a <;> cases h2 : cubeLo M d ls a' <;> simp [h1, h2] at h ⊢

theorem cube_one (M : Mgr) (ls : List Lit2) : M.OneLevel (cubeF ls) := by
  intro d a a' h1 h2 b
  have t : ∀ a, Mgr.NonConst (fun b => cubeF ls (M.mix d a b)) → cubeLo M d ls a = true := fun a ⟨x, y, hxy⟩ => by
    cases h : cubeLo M d ls a
    · exfalso; apply hxy
      show cubeF ls (M.mix d a x) = cubeF ls (M.mix d a y)
      rw [cube_mix, cube_mix, h]; rfl
    · rfl
  rw [cube_mix, cube_mix, t a h1, t a' h2]

/-- The variables, each once. -/
def varsOf : List Lit2 → List Nat
  | [] => []
  | x :: ls => if x.1 ∈ varsOf ls then varsOf ls else x.1 :: varsOf ls
theorem varsOf_mem (ls : List Lit2) (v : Nat) : v ∈ varsOf ls ↔ ∃ b, (v, b) ∈ ls := by
  induction ls with
  | nil => simp [varsOf]
  | cons x ls ih =>
    unfold varsOf
    split
    · rename_i hx
      rw [ih]
      constructor
      · rintro ⟨b, hb⟩; exact ⟨b, List.mem_cons_of_mem _ hb⟩
      · rintro ⟨b, hb⟩
        rcases List.mem_cons.1 hb with e | e
        · rw [← e] at hx
          exact ih.1 hx
        · exact ⟨b, e⟩
    · rw [List.mem_cons, ih]
      constructor
      · rintro (rfl | ⟨b, hb⟩)
        · exact ⟨x.2, List.Mem.head _⟩
        · exact ⟨b, List.mem_cons_of_mem _ hb⟩
      · rintro ⟨b, hb⟩
        rcases List.mem_cons.1 hb with e | e
        · exact .inl (by rw [← e])
        · exact .inr ⟨b, e⟩
theorem varsOf_nodup : ∀ ls, (varsOf ls).Nodup
  | [] => List.nodup_nil
  | x :: ls => by
    unfold varsOf
    split
    · exact varsOf_nodup ls
    · rename_i hx
      exact List.nodup_cons.2 ⟨hx, varsOf_nodup ls⟩

/-- No variable occurs with both signs. -/
def Consis (ls : List Lit2) : Prop := ∀ v, ¬ ((v, true) ∈ ls ∧ (v, false) ∈ ls)

theorem cube_supp {M : Mgr} (h : M.WF) {f : Nat} (hf : M.stored f) {ls : List Lit2} (hs : ∀ a, M.sem f a = cubeF ls a) (hv : ∀ x ∈ ls, x.1 < M.n) (hc : Consis ls) : (M.supp f).length = (varsOf ls).length := by
  have good : ∃ g : Nat → Bool, cubeF ls g = true := by
    refine ⟨fun v => decide ((v, true) ∈ ls), ?_⟩
    unfold cubeF
    rw [List.all_eq_true]
    rintro ⟨v, b⟩ hx
    cases b
    · have : ¬ (v, true) ∈ ls := fun ht => hc v ⟨ht, hx⟩
      simp [this]
    · simp [hx]
  obtain ⟨g, hg⟩ := good
  have mem : ∀ v, v ∈ M.supp f ↔ v ∈ varsOf ls := fun v => by
    rw [Mgr.supp_iff h hf, varsOf_mem]
    simp only [hs]
    constructor
    · rintro ⟨_, a, ha⟩
      apply Classical.byContradiction
      intro hno
      apply ha
      unfold cubeF
      have : ∀ x ∈ ls, ∀ c, Mgr.upd a v c x.1 = a x.1 := fun x hx c => Mgr.upd_other _ _ _ _ (fun e => hno ⟨x.2, by rw [← e]; exact hx⟩)
      have e : ∀ c, (ls.all fun x => Mgr.upd a v c x.1 == x.2) = ls.all fun x => a x.1 == x.2 := fun c => by
        rw [Bool.eq_iff_iff, List.all_eq_true, List.all_eq_true]
        constructor
        · intro hh x hx; rw [← this x hx c]; exact hh x hx
        · intro hh x hx; rw [this x hx c]; exact hh x hx
      rw [e, e]
    · rintro ⟨b, hb⟩
      refine ⟨hv _ hb, g, fun e => ?_⟩
      have hgv : g v = b := by
        have := List.all_eq_true.1 hg _ hb
        simpa using this
      have same : Mgr.upd g v b = g := by
        funext u
        by_cases eu : u = v
        · subst eu; rw [Mgr.upd_same, hgv]
        · rw [Mgr.upd_other _ _ _ _ eu]
      have bad : cubeF ls (Mgr.upd g v (!b)) = false := by
        apply Bool.eq_false_iff.2
        intro ht
        have := List.all_eq_true.1 ht _ hb
        rw [Mgr.upd_same] at this
        cases b <;> simp at this
      cases b
      · rw [same, hg] at e
        rw [show (!false) = true from rfl] at bad
        rw [bad] at e
        cases e
      · rw [same, hg] at e
        rw [show (!true) = false from rfl] at bad
        rw [bad] at e
        cases e
  have nd2 : (M.supp f).Nodup := (M.supp_sorted f).imp (fun h => by omega)
  have l1 := Mgr.nodup_length _ _ nd2 (fun v hv => (mem v).1 hv)
  have l2 := Mgr.nodup_length _ _ (varsOf_nodup ls) (fun v hv => (mem v).2 hv)
  omega

theorem cube_false {ls : List Lit2} (hc : ¬ Consis ls) (a : Nat → Bool) : cubeF ls a = false := by
  unfold Consis at hc
  have ⟨v, hv⟩ : ∃ v, ((v, true) ∈ ls ∧ (v, false) ∈ ls) := by
    apply Classical.byContradiction
    intro h
    exact hc (fun v hv => h ⟨v, hv⟩)
  apply Bool.eq_false_iff.2
  intro ht
  have h1 := List.all_eq_true.1 ht _ hv.1
  have h2 := List.all_eq_true.1 ht _ hv.2
  simp at h1 h2
  rw [h1] at h2
  cases h2

theorem cube_reads {M : Mgr} {ls : List Lit2} (hv : ∀ x ∈ ls, x.1 < M.n) : M.Reads 0 (cubeF ls) := fun a b hab => by
  unfold cubeF
  rw [Bool.eq_iff_iff, List.all_eq_true, List.all_eq_true]
  constructor
  · intro hh x hx; rw [← hab x.1 (hv x hx) (Nat.zero_le _)]; exact hh x hx
  · intro hh x hx; rw [hab x.1 (hv x hx) (Nat.zero_le _)]; exact hh x hx

end Go.Proofs.Ytngbodmooddjbaa
