/-
  Plain mathematics: 'Load' of what 'Save' wrote.
-/
import Derived.Test.YtifompekiockmaaRefS
import Derived.Test.YtifompekiockmaaLoad
namespace Go.Proofs.Ytifompekiockmaa

def tripOf (x : Nd) : Trip := (x.1, (x.2.1 : Int), (x.2.2 : Int))
theorem trip_cells (N : List Nd) : (N.map tripOf).flatMap cells3 = N.flatMap ndCells := by
  induction N with
  | nil => rfl
  | cons x N ih => rw [List.map_cons, List.flatMap_cons, List.flatMap_cons, ih]; rfl

section
variable {M : Mgr} {s : List Nat × List Nat}

theorem SavV.low (v : SavV M s) {g : Nat} (hg : g < 2) : g ∉ s.2 := fun hm => by have := (v.st g hm).2; omega

theorem SavV.okAll (v : SavV M s) (h : M.WF) : okAll M.n ((s.2.map (nodeC M s.2)).map tripOf) := by
  intro i hi
  simp only [List.length_map] at hi
  have hf : s.2[i]? = some s.2[i] := by simp [hi]
  have e : ((s.2.map (nodeC M s.2)).map tripOf).getD i (0, 0, 0) = tripOf (nodeC M s.2 s.2[i]) := by simp [hi]
  rw [e]
  obtain ⟨st, h2⟩ := v.st _ (List.mem_of_getElem? hf)
  obtain ⟨v0, v1, _⟩ := Mgr.node_of h st h2
  have c1 := (v.child hf (.inl rfl)).2.1
  have c2 := (v.child hf (.inr rfl)).2.1
  unfold okAt tripOf nodeC
  simp only
  omega

/-- The functions that 'Load' makes of the saved nodes are the saved ones. -/
theorem SavV.loadF (v : SavV M s) (h : M.WF) : ∀ i, i ≤ s.2.length → ∀ c, c < 2 ∨ c ∈ s.2.take i → (Go.Proofs.Ytifompekiockmaa.loadF (((s.2.map (nodeC M s.2)).map tripOf).take i)).getD (code0 s.2 c) (fun _ => false) = M.sem c
  | 0, _, c, hc => by
    have h2 : c < 2 := by
      rcases hc with x | x
      · exact x
      · simp at x
    rw [code0_low h2 (v.low h2)]
    funext a
    rw [M.sem_const _ _ h2]
    rcases (show c = 0 ∨ c = 1 by omega) with rfl | rfl <;> simp [Go.Proofs.Ytifompekiockmaa.loadF]
  | i + 1, hi, c, hc => by
    have hi' : i < s.2.length := by omega
    have hf : s.2[i]? = some s.2[i] := by simp [hi']
    have ih := SavV.loadF v h i (by omega)
    have hlen : (((s.2.map (nodeC M s.2)).map tripOf).take i).length = i := by simp; omega
    have hl := loadF_len (((s.2.map (nodeC M s.2)).map tripOf).take i)
    rw [hlen] at hl
    have e : ((s.2.map (nodeC M s.2)).map tripOf).take (i + 1) = ((s.2.map (nodeC M s.2)).map tripOf).take i ++ [tripOf (nodeC M s.2 s.2[i])] := by
      rw [List.take_succ_eq_append_getElem (by simp; omega)]
      simp
    rw [e, loadF_snoc]
    generalize Go.Proofs.Ytifompekiockmaa.loadF (((s.2.map (nodeC M s.2)).map tripOf).take i) = Fs at *
    unfold loadStep
    obtain ⟨t1, t2⟩ := v.topo i _ hf
    obtain ⟨st, h2⟩ := v.st _ (List.mem_of_getElem? hf)
    obtain ⟨v0, v1, _⟩ := Mgr.node_of h st h2
    by_cases hci : c = s.2[i]
    · subst hci
      rw [code0_at v.nodup hf]
      have e2 : (Fs ++ [fun a : Nat → Bool => if a (tripOf (nodeC M s.2 s.2[i])).1.toNat then Fs.getD (tripOf (nodeC M s.2 s.2[i])).2.2.toNat (fun _ => false) a else Fs.getD (tripOf (nodeC M s.2 s.2[i])).2.1.toNat (fun _ => false) a]).getD (i + 2) (fun _ => false) = fun a : Nat → Bool => if a (tripOf (nodeC M s.2 s.2[i])).1.toNat then Fs.getD (tripOf (nodeC M s.2 s.2[i])).2.2.toNat (fun _ => false) a else Fs.getD (tripOf (nodeC M s.2 s.2[i])).2.1.toNat (fun _ => false) a := by
        rw [← hl]; simp
      rw [e2]
      funext a
      rw [Mgr.sem_node h st h2]
      have q1 : Fs.getD (tripOf (nodeC M s.2 s.2[i])).2.2.toNat (fun _ => false) = M.sem (M.nd s.2[i]).2.2 := by
        have : (tripOf (nodeC M s.2 s.2[i])).2.2.toNat = code0 s.2 (M.nd s.2[i]).2.2 := rfl
        rw [this]
        refine ih _ ?_
        rcases Nat.lt_or_ge (M.nd s.2[i]).2.2 2 with x | x
        · exact .inl x
        · exact .inr (t2 x)
      have q2 : Fs.getD (tripOf (nodeC M s.2 s.2[i])).2.1.toNat (fun _ => false) = M.sem (M.nd s.2[i]).2.1 := by
        have : (tripOf (nodeC M s.2 s.2[i])).2.1.toNat = code0 s.2 (M.nd s.2[i]).2.1 := rfl
        rw [this]
        refine ih _ ?_
        rcases Nat.lt_or_ge (M.nd s.2[i]).2.1 2 with x | x
        · exact .inl x
        · exact .inr (t1 x)
      rw [q1, q2]
      rfl
    · have hc' : c < 2 ∨ c ∈ s.2.take i := by
        rcases hc with x | x
        · exact .inl x
        · rw [List.take_succ_eq_append_getElem hi', List.mem_append] at x
          rcases x with x | x
          · exact .inr x
          · exact (hci (by simpa using x)).elim
      have hcode : code0 s.2 c < i + 2 := by
        rcases hc' with x | x
        · rw [code0_low x (v.low x)]; omega
        · obtain ⟨j, hj⟩ := List.mem_iff_getElem?.1 x
          have hjl : j < (s.2.take i).length := (List.getElem?_eq_some_iff.1 hj).1
          rw [List.length_take] at hjl
          have hj2 : s.2[j]? = some c := by rw [List.getElem?_take, if_pos (by omega)] at hj; exact hj
          rw [code0_at v.nodup hj2]; omega
      have e3 : ∀ G : BF, (Fs ++ [G]).getD (code0 s.2 c) (fun _ => false) = Fs.getD (code0 s.2 c) (fun _ => false) := fun G => by simp [List.getElem?_append_left (show code0 s.2 c < Fs.length by omega)]
      rw [e3]
      exact ih c hc'

theorem SavV.loadAll (v : SavV M s) (h : M.WF) {c : Nat} (hc : c < 2 ∨ c ∈ s.2) : (Go.Proofs.Ytifompekiockmaa.loadF ((s.2.map (nodeC M s.2)).map tripOf)).getD (code0 s.2 c) (fun _ => false) = M.sem c := by
  have := v.loadF h s.2.length (Nat.le_refl _) c (by rw [List.take_length]; exact hc)
  rw [show ((s.2.map (nodeC M s.2)).map tripOf).take s.2.length = (s.2.map (nodeC M s.2)).map tripOf from List.take_of_length_le (by simp)] at this
  exact this

/-- The code of an element that is no constant points at a node. -/
theorem SavV.code_lt (v : SavV M s) {c : Nat} (hc : c < 2 ∨ c ∈ s.2) : code0 s.2 c < s.2.length + 2 := by
  rcases Nat.lt_or_ge c 2 with x | x
  · rw [code0_low x (v.low x)]; omega
  · obtain ⟨j, hj⟩ := List.mem_iff_getElem?.1 (hc.resolve_left (by omega))
    have := (List.getElem?_eq_some_iff.1 hj).1
    rw [code0_at v.nodup hj]; omega
end

/-- What 'Save' and the reference's 'Save' return for valid Refs. -/
structure SavedP (M : Mgr) (ls : List Int) (V : List Nat) (R : List Int) : Prop where
  nodes : saveN M (saveM M ls).1.2 = V.map (nodeC M V)
  roots : (saveM M ls).2 = R
  vw : V = (walkAll M (ls.map Int.toNat)).2
  rr : R = (ls.map Int.toNat).map fun f => (code0 V f : Int)
  sav : SavV M (walkAll M (ls.map Int.toNat))
  mem : ∀ f, f ∈ ls.map Int.toNat → 2 ≤ f → f ∈ V
  len : V.length ≤ M.nodes.length

theorem saved {M : Mgr} (h : M.WF) {ls : List Int} (hv : ∀ f, f ∈ ls → M.valid f = true) : ∃ V R, SavedP M ls V R := by
  have a := saveM_all h ls
  have e := walkAll_save ls hv
  have sv := a.v
  rw [e] at sv
  refine ⟨(walkAll M (ls.map Int.toNat)).2, (ls.map Int.toNat).map fun f => (code0 (walkAll M (ls.map Int.toNat)).2 f : Int), ⟨?_, ?_, rfl, rfl, sv, fun f hf h2 => ?_, sv.toSeenV.len h⟩⟩
  · rw [a.v.nodes, e]; rfl
  · apply List.ext_getElem?
    intro i
    by_cases hi : i < ls.length
    · have hf : ls[i]? = some ls[i] := by simp [hi]
      rw [a.root i _ hf, if_pos (hv _ (List.getElem_mem _)), e]
      simp [hi]
    · rw [List.getElem?_eq_none (by rw [a.len]; omega), List.getElem?_eq_none (by simp; omega)]
  · obtain ⟨g, hg, rfl⟩ := List.mem_map.1 hf
    have := a.mem g hg (hv g hg) h2
    rw [e] at this
    exact this

end Go.Proofs.Ytifompekiockmaa
