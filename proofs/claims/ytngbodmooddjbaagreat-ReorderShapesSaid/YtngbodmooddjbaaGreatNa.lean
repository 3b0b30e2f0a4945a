/-
  Plain: the names that 'adopt' gives to the nodes that it visits.
-/
import Derived.Test.YtngbodmooddjbaaGreatNo
namespace Go.Proofs.YtngbodmooddjbaaGreat

structure NmSt where
  K : Int → Option Nat
  k : Nat
  num : Nat
def nmStep (us : List Nat) (s : NmSt) (f : Nat) : NmSt :=
  match s.K (f : Int) with
  | some _ => s
  | none => if 0 < s.k then ⟨fun x => if x = (f : Int) then some (us.getD (s.k - 1) 0) else s.K x, s.k - 1, s.num⟩ else ⟨fun x => if x = (f : Int) then some s.num else s.K x, s.k, s.num + 1⟩
def nmAll (us : List Nat) (s : NmSt) (V : List Nat) : NmSt := V.foldl (nmStep us) s
theorem nmAll_snoc (us : List Nat) (s : NmSt) (V : List Nat) (f : Nat) : nmAll us s (V ++ [f]) = nmStep us (nmAll us s V) f := by simp [nmAll, List.foldl_append]
structure NmI (us : List Nat) (s : NmSt) : Prop where
  inj : ∀ g h x, s.K g = some x → s.K h = some x → g = h
  rng : ∀ g x, s.K g = some x → x < s.num ∧ x ∉ us.take s.k
  ul : s.k ≤ us.length
  nd : us.Nodup
  lt : ∀ u, u ∈ us → u < s.num
theorem take_pred {us : List Nat} {k : Nat} (h0 : 0 < k) (hk : k ≤ us.length) : us.take k = us.take (k - 1) ++ [us.getD (k - 1) 0] := by
  obtain ⟨j, rfl⟩ : ∃ j, k = j + 1 := ⟨k - 1, by omega⟩
  rw [List.take_succ_eq_append_getElem (by omega)]
  simp [List.getElem?_eq_getElem (show j < us.length by omega)]
theorem nmStep_mono {us : List Nat} {s : NmSt} (f : Nat) {g : Int} {x : Nat} (h : s.K g = some x) : (nmStep us s f).K g = some x := by
  unfold nmStep
  split
  · exact h
  · rename_i hn
    have hne : g ≠ (f : Int) := fun e => by rw [e, hn] at h; cases h
    split
    · show (if g = (f : Int) then _ else _) = _; rw [if_neg hne]; exact h
    · show (if g = (f : Int) then _ else _) = _; rw [if_neg hne]; exact h
theorem nmStep_has {us : List Nat} {s : NmSt} (f : Nat) : ∃ x, (nmStep us s f).K (f : Int) = some x := by
  unfold nmStep
  split
  · rename_i x hx; exact ⟨x, hx⟩
  · split
    · exact ⟨_, if_pos rfl⟩
    · exact ⟨_, if_pos rfl⟩
theorem nmStep_num {us : List Nat} {s : NmSt} (f : Nat) : s.num ≤ (nmStep us s f).num ∧ (nmStep us s f).num ≤ s.num + 1 := by
  unfold nmStep
  split
  · exact ⟨Nat.le_refl _, by omega⟩
  · split
    · exact ⟨Nat.le_refl _, by show s.num ≤ s.num + 1; omega⟩
    · exact ⟨by show s.num ≤ s.num + 1; omega, Nat.le_refl _⟩
theorem NmI.step {us : List Nat} {s : NmSt} (i : NmI us s) (f : Nat) : NmI us (nmStep us s f) := by
  unfold nmStep
  split
  · exact i
  · rename_i hn
    split
    · rename_i h0
      have ht := take_pred h0 i.ul
      have hin : us.getD (s.k - 1) 0 ∈ us.take s.k := by rw [ht]; exact List.mem_append.2 (.inr (List.mem_singleton.2 rfl))
      have hnot : us.getD (s.k - 1) 0 ∉ us.take (s.k - 1) := fun hm => by
        have hnd : (us.take s.k).Nodup := i.nd.sublist (List.take_sublist _ _)
        rw [ht] at hnd
        exact (List.nodup_append.1 hnd).2.2 _ hm _ (List.mem_singleton.2 rfl) rfl
      have hold : ∀ g x, s.K g = some x → x ≠ us.getD (s.k - 1) 0 := fun g x hx e => (i.rng g x hx).2 (by rw [e]; exact hin)
      refine ⟨fun g h x hg hh => ?_, fun g x hg => ?_, by have := i.ul; show s.k - 1 ≤ _; omega, i.nd, i.lt⟩
      · have hg' : (if g = (f : Int) then some (us.getD (s.k - 1) 0) else s.K g) = some x := hg
        have hh' : (if h = (f : Int) then some (us.getD (s.k - 1) 0) else s.K h) = some x := hh
        by_cases e1 : g = (f : Int) <;> by_cases e2 : h = (f : Int)
        · rw [e1, e2]
        · rw [if_pos e1] at hg'; rw [if_neg e2] at hh'
          injection hg' with hg'
          exact (hold h x hh' hg'.symm).elim
        · rw [if_neg e1] at hg'; rw [if_pos e2] at hh'
          injection hh' with hh'
          exact (hold g x hg' hh'.symm).elim
        · rw [if_neg e1] at hg'; rw [if_neg e2] at hh'
          exact i.inj g h x hg' hh'
      · have hg' : (if g = (f : Int) then some (us.getD (s.k - 1) 0) else s.K g) = some x := hg
        show x < s.num ∧ x ∉ us.take (s.k - 1)
        by_cases e1 : g = (f : Int)
        · rw [if_pos e1] at hg'
          injection hg' with hg'
          rw [← hg']
          exact ⟨i.lt _ (List.mem_of_mem_take hin), hnot⟩
        · rw [if_neg e1] at hg'
          refine ⟨(i.rng g x hg').1, fun hm => (i.rng g x hg').2 ?_⟩
          rw [ht]
          exact List.mem_append.2 (.inl hm)
    · rename_i h0
      have hk : s.k = 0 := by omega
      refine ⟨fun g h x hg hh => ?_, fun g x hg => ?_, i.ul, i.nd, fun u hu => by have := i.lt u hu; show u < s.num + 1; omega⟩
      · have hg' : (if g = (f : Int) then some s.num else s.K g) = some x := hg
        have hh' : (if h = (f : Int) then some s.num else s.K h) = some x := hh
        by_cases e1 : g = (f : Int) <;> by_cases e2 : h = (f : Int)
        · rw [e1, e2]
        · rw [if_pos e1] at hg'; rw [if_neg e2] at hh'
          injection hg' with hg'
          have := (i.rng h x hh').1; omega
        · rw [if_neg e1] at hg'; rw [if_pos e2] at hh'
          injection hh' with hh'
          have := (i.rng g x hg').1; omega
        · rw [if_neg e1] at hg'; rw [if_neg e2] at hh'
          exact i.inj g h x hg' hh'
      · have hg' : (if g = (f : Int) then some s.num else s.K g) = some x := hg
        show x < s.num + 1 ∧ x ∉ us.take s.k
        rw [hk]
        by_cases e1 : g = (f : Int)
        · rw [if_pos e1] at hg'
          injection hg' with hg'
          exact ⟨by omega, by simp⟩
        · rw [if_neg e1] at hg'
          exact ⟨by have := (i.rng g x hg').1; omega, by simp⟩
theorem NmI.all {us : List Nat} : ∀ (V : List Nat) {s : NmSt}, NmI us s → NmI us (nmAll us s V)
  | [], _, i => i
  | f :: V, _, i => NmI.all V (i.step f)
theorem nmAll_mono {us : List Nat} : ∀ (V : List Nat) {s : NmSt} {g : Int} {x : Nat}, s.K g = some x → (nmAll us s V).K g = some x
  | [], _, _, _, h => h
  | f :: V, _, _, _, h => nmAll_mono V (nmStep_mono f h)
theorem nmAll_has {us : List Nat} : ∀ (V : List Nat) {s : NmSt} {f : Nat}, f ∈ V → ∃ x, (nmAll us s V).K (f : Int) = some x
  | f :: V, s, g, h => by
    rcases List.mem_cons.1 h with rfl | h
    · obtain ⟨x, hx⟩ := nmStep_has (us := us) (s := s) g
      exact ⟨x, nmAll_mono V hx⟩
    · exact nmAll_has V h
theorem nmAll_num {us : List Nat} : ∀ (V : List Nat) (s : NmSt), s.num ≤ (nmAll us s V).num ∧ (nmAll us s V).num ≤ s.num + V.length
  | [], s => ⟨Nat.le_refl _, Nat.le_refl _⟩
  | f :: V, s => by
    have h1 := nmStep_num (us := us) (s := s) f
    have h2 := nmAll_num (us := us) V (nmStep us s f)
    have : nmAll us s (f :: V) = nmAll us (nmStep us s f) V := rfl
    rw [this, List.length_cons]
    omega

end Go.Proofs.YtngbodmooddjbaaGreat
