/-
  Plain mathematics: counting.
-/
import Derived.Test.YtngbodmooddjbaaCm
namespace Go.Proofs.Ytngbodmooddjbaa

/-- How many values of the variables of a list make F true. -/
def cntL (F : Bfn) : List Nat → Nat
  | [] => if F (fun _ => false) then 1 else 0
  | v :: vs => cntL (fun a => F (Mgr.upd a v false)) vs + cntL (fun a => F (Mgr.upd a v true)) vs
theorem cntL_le : ∀ (vs : List Nat) (F : Bfn), cntL F vs ≤ 2 ^ vs.length
  | [], F => by unfold cntL; split <;> simp
  | v :: vs, F => by
    have h1 := cntL_le vs (fun a => F (Mgr.upd a v false))
    have h2 := cntL_le vs (fun a => F (Mgr.upd a v true))
    simp only [cntL, List.length_cons, Nat.pow_succ]; omega
theorem cntL_congr : ∀ (vs : List Nat) {F G : Bfn}, (∀ a, F a = G a) → cntL F vs = cntL G vs := fun vs F G h => by rw [show F = G from funext h]
theorem cntL_free {F : Bfn} {v : Nat} (h : ∀ a x, F (Mgr.upd a v x) = F a) (vs : List Nat) : cntL F (v :: vs) = 2 * cntL F vs := by
  have e : ∀ x, (fun a => F (Mgr.upd a v x)) = F := fun x => funext fun a => h a x
  simp only [cntL]
  rw [e, e]; omega
theorem cntL_skip : ∀ (l1 l2 : List Nat) {F : Bfn}, (∀ v, v ∈ l1 → ∀ a x, F (Mgr.upd a v x) = F a) → cntL F (l1 ++ l2) = cntL F l2 * 2 ^ l1.length
  | [], l2, F, _ => by simp
  | v :: l1, l2, F, h => by
    rw [List.cons_append, cntL_free (h v List.mem_cons_self), cntL_skip l1 l2 (fun u hu => h u (List.mem_cons_of_mem _ hu)), List.length_cons, Nat.pow_succ, Nat.mul_left_comm, Nat.mul_comm 2]
theorem upd_comm (a : Nat → Bool) {u v : Nat} (h : u ≠ v) (x y : Bool) : Mgr.upd (Mgr.upd a u x) v y = Mgr.upd (Mgr.upd a v y) u x := by
  funext z
  unfold Mgr.upd
  by_cases e1 : z = u
  · subst e1; simp [h]
  · by_cases e2 : z = v
    · subst e2; simp [e1]
    · simp [e1, e2]
theorem cntL_swap (F : Bfn) (u v : Nat) (vs : List Nat) : cntL F (u :: v :: vs) = cntL F (v :: u :: vs) := by
  by_cases e : u = v
  · rw [e]
  · simp only [cntL]
    have c : ∀ x y, (fun a => F (Mgr.upd (Mgr.upd a v y) u x)) = fun a => F (Mgr.upd (Mgr.upd a u x) v y) := fun x y => funext fun a => by rw [upd_comm a e]
    rw [c, c, c, c]; omega
theorem cntL_perm {l1 l2 : List Nat} (h : l1.Perm l2) : ∀ F : Bfn, cntL F l1 = cntL F l2 := by
  induction h with
  | nil => intro F; rfl
  | cons x _ ih => intro F; simp only [cntL, ih]
  | swap x y l => intro F; exact cntL_swap F y x l
  | trans _ _ ih1 ih2 => intro F; rw [ih1, ih2]

/-! ### the count of a node -/
/-- The variables of a list lie in the order of their levels. -/
def Srt (M : Mgr) (ss : List Nat) : Prop := ss.Pairwise fun x y => M.lev x < M.lev y
/-- The first variable of f, as a place in the list. -/
def plc (M : Mgr) (ss : List Nat) (f : Nat) : Nat := if f < 2 then ss.length else ss.idxOf (M.nd f).1.toNat
/-- All variables of f are in the list. -/
def VarsIn (M : Mgr) (ss : List Nat) (f : Nat) : Prop := ∀ k g, M.Reach k f g → (M.nd g).1.toNat ∈ ss
def cnM (M : Mgr) (ss : List Nat) (f : Nat) : Nat := cntL (M.sem f) (ss.drop (plc M ss f))
section
variable {M : Mgr} {ss : List Nat} {f : Nat}
theorem Srt.nodup (h : Srt M ss) : ss.Nodup := h.imp (fun hab e => by rw [e] at hab; exact Nat.lt_irrefl _ hab)
theorem Srt.lt (h : Srt M ss) {i j : Nat} (hi : i < ss.length) (hj : j < ss.length) (hl : M.lev ss[i] < M.lev ss[j]) : i < j := by
  rcases Nat.lt_trichotomy i j with x | x | x
  · exact x
  · subst x; omega
  · have := (List.pairwise_iff_getElem.1 h) j i hj hi x; omega
theorem plc_at (hf : 2 ≤ f) (hm : (M.nd f).1.toNat ∈ ss) : ∃ h : plc M ss f < ss.length, ss[plc M ss f] = (M.nd f).1.toNat := by
  have e : plc M ss f = ss.idxOf (M.nd f).1.toNat := by unfold plc; rw [if_neg (by omega)]
  rw [e]
  exact ⟨List.idxOf_lt_length_iff.2 hm, List.getElem_idxOf _⟩
/-- f reads no variable ahead of its place. -/
theorem free_above (wf : M.WF) (srt : Srt M ss) (sf : M.stored f) (hm : 2 ≤ f → (M.nd f).1.toNat ∈ ss) {i : Nat} (hi : i < plc M ss f) (hl : i < ss.length) : ∀ a x, M.sem f (Mgr.upd a ss[i] x) = M.sem f a := fun a x => by
  by_cases h2 : f < 2
  · rw [M.sem_const _ _ h2, M.sem_const _ _ h2]
  · obtain ⟨hp, ep⟩ := plc_at (by omega) (hm (by omega))
    refine Mgr.sem_agree wf _ f sf (Nat.le_refl _) _ _ (fun u hu hd => ?_)
    unfold Mgr.upd
    by_cases e : u = ss[i]
    · have h1 := (List.pairwise_iff_getElem.1 srt) i (plc M ss f) hl hp hi
      unfold Mgr.depth at hd
      rw [if_neg h2] at hd
      rw [ep] at h1
      rw [e] at hd
      omega
    · simp [e]
/-- The count of a node by those of its branches. -/
theorem cnM_node (wf : M.WF) (srt : Srt M ss) (sf : M.stored f) (h2 : 2 ≤ f) (hm : (M.nd f).1.toNat ∈ ss) (hm0 : 2 ≤ (M.nd f).2.1 → (M.nd (M.nd f).2.1).1.toNat ∈ ss) (hm1 : 2 ≤ (M.nd f).2.2 → (M.nd (M.nd f).2.2).1.toNat ∈ ss) :
    (plc M ss f + 1 ≤ plc M ss (M.nd f).2.1 ∧ plc M ss (M.nd f).2.1 ≤ ss.length) ∧ (plc M ss f + 1 ≤ plc M ss (M.nd f).2.2 ∧ plc M ss (M.nd f).2.2 ≤ ss.length) ∧
    cnM M ss f = cnM M ss (M.nd f).2.1 * 2 ^ (plc M ss (M.nd f).2.1 - (plc M ss f + 1)) + cnM M ss (M.nd f).2.2 * 2 ^ (plc M ss (M.nd f).2.2 - (plc M ss f + 1)) := by
  obtain ⟨v0, v1, sl, sh, _, dl, dh⟩ := Mgr.node_of wf sf h2
  obtain ⟨hp, ep⟩ := plc_at h2 hm
  have hdf : M.depth f = M.lev (M.nd f).1.toNat := by unfold Mgr.depth; rw [if_neg (by omega)]
  have key : ∀ g, M.stored g → (2 ≤ g → (M.nd g).1.toNat ∈ ss) → M.depth f < M.depth g → (plc M ss f + 1 ≤ plc M ss g ∧ plc M ss g ≤ ss.length) ∧ cntL (M.sem g) (ss.drop (plc M ss f + 1)) = cnM M ss g * 2 ^ (plc M ss g - (plc M ss f + 1)) := fun g sg hg hd => by
    have hle : plc M ss f + 1 ≤ plc M ss g ∧ plc M ss g ≤ ss.length := by
      by_cases g2 : g < 2
      · have e : plc M ss g = ss.length := by unfold plc; rw [if_pos g2]
        omega
      · obtain ⟨hq, eq⟩ := plc_at (by omega) (hg (by omega))
        have hdg : M.depth g = M.lev (M.nd g).1.toNat := by unfold Mgr.depth; rw [if_neg g2]
        have := srt.lt hp hq (by rw [ep, eq]; omega)
        omega
    refine ⟨hle, ?_⟩
    have esplit : ss.drop (plc M ss f + 1) = (ss.drop (plc M ss f + 1)).take (plc M ss g - (plc M ss f + 1)) ++ ss.drop (plc M ss g) := by
      have := (List.take_append_drop (plc M ss g - (plc M ss f + 1)) (ss.drop (plc M ss f + 1))).symm
      rw [List.drop_drop, show plc M ss f + 1 + (plc M ss g - (plc M ss f + 1)) = plc M ss g by omega] at this
      exact this
    rw [esplit, cntL_skip _ _ (fun v hvm a x => ?_)]
    · unfold cnM
      rw [List.length_take, List.length_drop]
      congr 2; omega
    · obtain ⟨i, hi, rfl⟩ := List.getElem_of_mem hvm
      simp only [List.length_take, List.length_drop] at hi
      simp only [List.getElem_take, List.getElem_drop]
      exact free_above wf srt sg hg (by omega) (by omega) a x
  obtain ⟨k0, c0⟩ := key _ sl hm0 dl
  obtain ⟨k1, c1⟩ := key _ sh hm1 dh
  refine ⟨k0, k1, ?_⟩
  have ed : ss.drop (plc M ss f) = ss[plc M ss f] :: ss.drop (plc M ss f + 1) := List.drop_eq_getElem_cons hp
  unfold cnM at *
  rw [ed, ep]
  simp only [cntL]
  rw [← c0, ← c1]
  congr 1
  · exact cntL_congr _ (fun a => (Mgr.sem_lo wf sf h2 a).symm)
  · exact cntL_congr _ (fun a => (Mgr.sem_hi wf sf h2 a).symm)
end
end Go.Proofs.Ytngbodmooddjbaa
