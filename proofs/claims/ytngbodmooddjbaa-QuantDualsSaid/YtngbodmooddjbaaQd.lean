/-
  Plain laws of the quantifiers: duality, lists and their parts, what is quantified is not read.
-/
import Derived.Test.YtngbodmooddjbaaQw
namespace Go.Proofs.Ytngbodmooddjbaa

theorem exQ_append : ∀ (l k : List Nat) (F : Bfn), exQ (l ++ k) F = exQ k (exQ l F)
  | [], _, _ => rfl
  | v :: l, k, F => by
    show exQ (l ++ k) _ = exQ k (exQ l _)
    rw [exQ_append l k]
theorem exQ_parts (l : List Nat) (c : Nat) (F : Bfn) : exQ (l.take c) (exQ (l.drop c) F) = exQ l F := by
  rw [← exQ_append]
  refine exQ_mem (fun v => ?_) F
  conv => rhs; rw [← List.take_append_drop c l]
  rw [List.mem_append, List.mem_append]
  exact Or.comm
theorem alQ_parts (l : List Nat) (c : Nat) (F : Bfn) : alQ (l.drop c) (alQ (l.take c) F) = alQ l F := by
  funext a
  unfold alQ
  rw [show (fun b => !(!exQ (l.take c) (fun b => !F b) b)) = exQ (l.take c) (fun b => !F b) from funext fun b => Bool.not_not _, ← exQ_append, List.take_append_drop]
theorem exQ_or2 (l : List Nat) (F G : Bfn) : exQ l (fun b => F b || G b) = fun a => exQ l F a || exQ l G a := funext fun a => exQ_or l F G a
theorem alQ_and (l : List Nat) (F G : Bfn) : alQ l (fun b => F b && G b) = fun a => alQ l F a && alQ l G a := by
  funext a
  unfold alQ
  rw [show (fun b => !(F b && G b)) = fun b => (!F b || !G b) from funext fun b => Bool.not_and _ _, exQ_or, Bool.not_or]
theorem ovr_self (l : List Nat) (a : Nat → Bool) : ovr l a a = a := by
  funext v
  unfold ovr
  split <;> rfl
theorem le_exQ (l : List Nat) (F : Bfn) (a : Nat → Bool) (h : F a = true) : exQ l F a = true := (exQ_iff l F a).2 ⟨a, by rw [ovr_self]; exact h⟩
theorem alQ_le (l : List Nat) (F : Bfn) (a : Nat → Bool) (h : alQ l F a = true) : F a = true := by
  cases hF : F a
  · have := le_exQ l (fun b => !F b) a (by show (!F a) = true; rw [hF]; rfl)
    unfold alQ at h
    rw [this] at h
    cases h
  · rfl
theorem alQ_dual (l : List Nat) (F : Bfn) (a : Nat → Bool) : (!exQ l (fun b => !F b) a) = alQ l F a := rfl
theorem sup_gone {n c : Nat} {M : Mgr} {B : List (Int × Bfn)} {f : Int} {F : Bfn} {l : List Nat} (b : Qk n c M B) (hf : (f, exQ l F) ∈ B) : ∀ v, v ∈ M.supM f → v ∉ l := fun v hv hl => by
  have := sup_of b hf (vs := (List.range n).filter fun u => decide (u ∉ l)) (fun u hu hn a => by
    have hul : u ∈ l := by
      apply Classical.byContradiction
      intro h
      exact hn (List.mem_filter.2 ⟨List.mem_range.2 hu, decide_eq_true h⟩)
    rw [exQ_gone hul, exQ_gone hul]) v hv
  exact of_decide_eq_true (List.mem_filter.1 this).2 hl

end Go.Proofs.Ytngbodmooddjbaa
