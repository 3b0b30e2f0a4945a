/-
  Plain mathematics: how many packets a range of a field has.
-/
import Derived.Test.YtohinonkfhkclaaDoorHc
namespace Go.Proofs.YtohinonkfhkclaaDoor

/-- How many numbers below m have the property. -/
def cntN (G : Nat → Bool) (m : Nat) : Nat := ((List.range m).filter G).length
theorem cntN_add (G : Nat → Bool) (a b : Nat) : cntN G (a + b) = cntN G a + cntN (fun x => G (a + x)) b := by
  unfold cntN
  rw [List.range_add, List.filter_append, List.length_append, List.filter_map, List.length_map]
  rfl
/-- The last j variables of field k. -/
def fvL (k j : Nat) : List Nat := (List.range j).map fun i => fvar k (fw k - j + i) false
theorem fvL_succ (k j : Nat) (h : j + 1 ≤ fw k) : fvL k (j + 1) = fvar k (fw k - (j + 1)) false :: fvL k j := by
  unfold fvL
  rw [List.range_succ_eq_map, List.map_cons, List.map_map]
  congr 1
  refine List.map_congr_left (fun i _ => ?_)
  show fvar k (fw k - (j + 1) + (i + 1)) false = _
  rw [show fw k - (j + 1) + (i + 1) = fw k - j + i by omega]
theorem cnt_field (k : Nat) : ∀ (j c : Nat) (G : Nat → Bool), j ≤ fw k → cntL (fun a => G (c + bval (fbit k false a) j)) (fvL k j) = cntN (fun x => G (c + x)) (2 ^ j)
  | 0, c, G, _ => by
    show (if G (c + 0) = true then 1 else 0) = ((List.range 1).filter fun x => G (c + x)).length
    by_cases h : G c = true <;> simp [List.range_succ, h]
  | j + 1, c, G, h => by
    rw [fvL_succ k j h]
    simp only [cntL]
    have key : ∀ x : Bool, (fun a => G (c + bval (fbit k false (Mgr.upd a (fvar k (fw k - (j + 1)) false) x)) (j + 1))) = fun a => G ((c + if x then 2 ^ j else 0) + bval (fbit k false a) j) := fun x => by
      funext a
      have e1 : fbit k false (Mgr.upd a (fvar k (fw k - (j + 1)) false) x) j = x := by
        unfold fbit
        rw [show fw k - 1 - j = fw k - (j + 1) by omega, Mgr.upd_same]
      have e2 : bval (fbit k false (Mgr.upd a (fvar k (fw k - (j + 1)) false) x)) j = bval (fbit k false a) j := bval_congr _ (fun i hi => by
        unfold fbit
        rw [Mgr.upd_other]
        unfold fvar hvar
        simp
        omega)
      simp only [bval, e1, e2]
      congr 1
      cases x <;> simp <;> omega
    rw [key, key, cnt_field k j _ G (by omega), cnt_field k j _ G (by omega), Nat.pow_succ, Nat.mul_two, cntN_add]
    simp only [Bool.false_eq_true, if_false, if_true, Nat.add_zero, Nat.add_assoc]

theorem fvL_all (k : Nat) : fvL k (fw k) = (List.range (fw k)).map fun i => fvar k i false := by
  unfold fvL
  refine List.map_congr_left (fun i _ => ?_)
  rw [show fw k - fw k + i = i by omega]
/-- The variables of a field among all of the current packet. -/
theorem hvK_perm {k : Nat} (hk : k < 5) : (hvK false 104).Perm (((List.range (ff k)).map (fun i => hvar i false) ++ (List.range (104 - ff k - fw k)).map (fun i => hvar (ff k + fw k + i) false)) ++ fvL k (fw k)) := by
  have hf := ff_fw hk
  have e : hvK false 104 = (List.range (ff k)).map (fun i => hvar i false) ++ (fvL k (fw k) ++ (List.range (104 - ff k - fw k)).map (fun i => hvar (ff k + fw k + i) false)) := by
    unfold hvK
    rw [show 104 = ff k + (fw k + (104 - ff k - fw k)) by omega, List.range_add, List.range_add, List.map_append, List.map_append, List.map_append, List.map_map, List.map_map, List.map_map, fvL_all]
    rw [show ff k + (fw k + (104 - ff k - fw k)) - ff k - fw k = 104 - ff k - fw k by omega]
    have e3 : (List.range (104 - ff k - fw k)).map (((fun i => hvar i false) ∘ fun x => ff k + x) ∘ fun x => fw k + x) = (List.range (104 - ff k - fw k)).map (fun i => hvar (ff k + fw k + i) false) := List.map_congr_left (fun i _ => by
      show hvar (ff k + (fw k + i)) false = _
      rw [Nat.add_assoc])
    rw [e3]; rfl
  rw [e, List.append_assoc]
  exact List.Perm.append_left _ List.perm_append_comm
/-- How many packets a range of a field has. -/
theorem cnt_range {k : Nat} (hk : k < 5) (lo hi : Nat) : cntL (rgF k false lo hi) (hvK false 104) = cntN (fun x => decide (lo ≤ x ∧ x ≤ hi)) (2 ^ fw k) * 2 ^ (104 - fw k) := by
  have hf := ff_fw hk
  rw [cntL_perm (hvK_perm hk), cntL_skip _ _ (fun v hv a x => ?_)]
  · have := cnt_field k (fw k) 0 (fun x => decide (lo ≤ x ∧ x ≤ hi)) (Nat.le_refl _)
    simp only [Nat.zero_add] at this
    rw [show rgF k false lo hi = fun a => decide (lo ≤ bval (fbit k false a) (fw k) ∧ bval (fbit k false a) (fw k) ≤ hi) from rfl, this]
    congr 2
    simp; omega
  · refine rgF_rd lo hi _ _ (fun u h1 h2 => Mgr.upd_other _ _ _ _ ?_)
    rintro rfl
    rw [fvar_eq] at h1
    unfold fend at h2
    rcases List.mem_append.1 hv with h | h
    · obtain ⟨i, hi, rfl⟩ := List.mem_map.1 h
      have := List.mem_range.1 hi
      unfold hvar at h1 h2; simp at h1 h2; omega
    · obtain ⟨i, hi, rfl⟩ := List.mem_map.1 h
      unfold hvar at h1 h2; simp at h1 h2; omega

end Go.Proofs.YtohinonkfhkclaaDoor
