/-
  Plain: an empty manager with a given order.
-/
import Derived.Test.YtngbodmooddjbaaAo
import Derived.Test.YtngbodmooddjbaaSaveP
namespace Go.Proofs.Ytngbodmooddjbaa

/-- A list of all numbers below its length. -/
def PermL (l : List Nat) : Prop := l.Nodup ∧ ∀ v, v ∈ l → v < l.length
theorem PermL.has {l : List Nat} (h : PermL l) {v : Nat} (hv : v < l.length) : v ∈ l := by
  apply Classical.byContradiction
  intro hn
  have h1 : (v :: l).Nodup := List.nodup_cons.2 ⟨hn, h.1⟩
  have := Mgr.nodup_length (v :: l) (List.range l.length) h1 (fun x hx => by
    rw [List.mem_range]
    rcases List.mem_cons.1 hx with rfl | hx
    · exact hv
    · exact h.2 x hx)
  rw [List.length_cons, List.length_range] at this
  omega
theorem PermL.lt {l : List Nat} (h : PermL l) {i : Nat} (hi : i < l.length) : l.getD i 0 < l.length := h.2 _ (by rw [List.getD_eq_getElem?_getD, List.getElem?_eq_getElem hi]; exact List.getElem_mem hi)
theorem PermL.inj {l : List Nat} (h : PermL l) {i j : Nat} (hi : i < l.length) (hj : j < l.length) (e : l.getD i 0 = l.getD j 0) : i = j := by
  rw [List.getD_eq_getElem?_getD, List.getD_eq_getElem?_getD, List.getElem?_eq_getElem hi, List.getElem?_eq_getElem hj] at e
  exact nodup_inj h.1 (g := l[i]) (List.getElem?_eq_getElem hi) (by rw [List.getElem?_eq_getElem hj]; exact congrArg some e.symm)
/-- The table of the levels while it is made. -/
def lvO (l : List Nat) : Nat → List Nat
  | 0 => List.range l.length
  | k + 1 => (lvO l k).set (l.getD k 0) k
theorem lvO_len (l : List Nat) : ∀ k, (lvO l k).length = l.length
  | 0 => by simp [lvO]
  | k + 1 => by simp only [lvO, List.length_set]; exact lvO_len l k
theorem lvO_at {l : List Nat} (h : PermL l) : ∀ k, k ≤ l.length → ∀ j, j < k → (lvO l k).getD (l.getD j 0) 0 = j
  | 0, _, j, hj => by omega
  | k + 1, hk, j, hj => by
    simp only [lvO]
    rw [List.getD_eq_getElem?_getD, List.getElem?_set]
    by_cases e : j = k
    · subst e
      rw [if_pos rfl, if_pos (by rw [lvO_len]; exact h.lt (by omega))]
      rfl
    · rw [if_neg (fun e2 => e (h.inj (by omega) (by omega) e2.symm)), ← List.getD_eq_getElem?_getD]
      exact lvO_at h k (by omega) j (by omega)
/-- A new manager with the order l. -/
def newO (l : List Nat) : Mgr := { order := l, level := lvO l l.length, nodes := [(-1, 0, 0), (-1, 0, 0)], shown := [true, true], free := [] }
theorem newO_n (l : List Nat) : (newO l).n = l.length := rfl
theorem newO_wf {l : List Nat} (h : PermL l) : (newO l).WF where
  len := lvO_len l _
  ol := fun v hv => by
    obtain ⟨j, hj, e⟩ := List.getElem_of_mem (h.has hv)
    have e2 : l.getD j 0 = v := by rw [List.getD_eq_getElem?_getD, List.getElem?_eq_getElem hj]; exact e
    have := lvO_at h l.length (Nat.le_refl _) j hj
    rw [e2] at this
    show (lvO l l.length).getD v 0 < l.length ∧ l.getD ((lvO l l.length).getD v 0) 0 = v
    rw [this]
    exact ⟨hj, e2⟩
  lo_ := fun i hi => ⟨h.lt hi, lvO_at h l.length (Nat.le_refl _) i hi⟩
  two := by simp [newO]
  nd0 := rfl
  nd1 := rfl
  sh := rfl
  sh0 := rfl
  sh1 := rfl
  shst := fun f hf => by
    rcases Nat.lt_or_ge f 2 with h2 | h2
    · exact .inl h2
    · have : (newO l).vis f = false := by
        show [true, true].getD f false = false
        rw [List.getD_eq_getElem?_getD, List.getElem?_eq_none (by simpa using h2)]; rfl
      rw [this] at hf; cases hf
  node := fun f h2 hl => by
    have : f < 2 := hl
    omega
  inj := fun f g h2 h2' hl => by
    have : f < 2 := hl
    omega
  fr := fun f hf => by cases hf
  fnd := List.nodup_nil
theorem PermL.range (n : Nat) : PermL (List.range n) := ⟨List.nodup_range, fun v hv => by rw [List.length_range]; exact List.mem_range.1 hv⟩
theorem Mgr.WF.perm {M : Mgr} (h : M.WF) : PermL M.order := by
  refine ⟨?_, fun v hv => ?_⟩
  · rw [List.nodup_iff_pairwise_ne, List.pairwise_iff_getElem]
    intro i j hi hj hij e
    have h1 := (h.lo_ i hi).2
    have h2 := (h.lo_ j hj).2
    have e2 : M.ord i = M.ord j := by
      unfold Mgr.ord
      rw [List.getD_eq_getElem?_getD, List.getD_eq_getElem?_getD, List.getElem?_eq_getElem hi, List.getElem?_eq_getElem hj]
      exact e
    rw [e2] at h1
    omega
  · obtain ⟨j, hj, rfl⟩ := List.getElem_of_mem hv
    have := (h.lo_ j hj).1
    unfold Mgr.ord at this
    rw [List.getD_eq_getElem?_getD, List.getElem?_eq_getElem hj] at this
    exact this

end Go.Proofs.Ytngbodmooddjbaa
