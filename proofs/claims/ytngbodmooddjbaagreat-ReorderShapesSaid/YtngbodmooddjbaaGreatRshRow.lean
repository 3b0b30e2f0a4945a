/-
  For all arguments the law ReorderShapes of the package netverifylaw28 returns true and leaves all memory that was there as it was; no condition.
-/
import Derived.Test.YtngbodmooddjbaaGreatRsh
import Derived.Test.YtngbodmooddjbaaGreatRunJ
namespace Go.Proofs.YtngbodmooddjbaaGreat
open Go.ChangeShapes Go.WideShapes Go.ChangeAt Go.RowKit

set_option maxRecDepth 100000 in
theorem ReorderShapes_lifted (os : Os) (started : os.Started) (H : Type) (enc : TypeId × Value → H) :
    ReturnsInHanded {} Tryz.checked os 3 .any (Rows.reorderShapesSpec.pre6 enc Tryz.prog Tryz.f3 Rows.reorderShapesRow.domain false) (Rows.reorderShapesSpec.post enc Tryz.prog Tryz.f3 false true false false) := by
  refine returnsInHanded_of_change (C := Tryz.checked) godebug_own started (by kernel_rfl) Tryz.func3
    (ChangeSpec.witness6 (enc := enc) (C := Tryz.checked) false ⟨#[], #[.int .i64 0, .slice none 0 0, .slice none 0 0, .slice none 0 0], []⟩ 8 (by kernel_rfl) (by kernel_rfl) (by kernel_rfl) (by kernel_rfl)) ?_
  intro W base args ds gs before hval0 hW hcnd _
  have hval : ∀ (j : Nat) t v, Tryz.f3.params[j]? = some t → args[j]? = some v → Value.okWide Tryz.prog W .any base t v := hval0
  have hW' := hW
  obtain ⟨p, q, hA0, hV, rfl, hfz, hnd⟩ := hW
  have hA : DataW.TrodAll enc Tryz.prog W 0 (fun _ => true) true Tryz.f3.params.toList args.toList ds p := hA0
  rw [Tryz.params3] at hA hval
  have hAk := hA
  obtain ⟨v0, vs0, d0, ds0, p0, q0, hargs, rfl, rfl, h0, r0⟩ := trodAll_cons hA
  obtain ⟨v1, vs1, d1, ds1, p1, q1, rfl, rfl, rfl, h1, r1⟩ := trodAll_cons r0
  obtain ⟨v2, vs2, d2, ds2, p2, q2, rfl, rfl, rfl, h2, r2⟩ := trodAll_cons r1
  obtain ⟨v3, vs3, d3, ds3, p3, q3, rfl, rfl, rfl, h3, r3⟩ := trodAll_cons r2
  obtain ⟨rfl, rfl, rfl⟩ := trodAll_nil r3
  obtain rfl : args = #[v0, v1, v2, v3] := by cases args; simp_all
  obtain ⟨rfl, rfl⟩ := trodVars_none hV
  have hlt : ∀ x ∈ p0 ++ p1 ++ p2 ++ p3, x.block < W.heap.size := fun x hx => hW'.lt x (by simpa using hx)
  obtain ⟨a0, rfl, hd0, hp0, wf0⟩ := open_int Tryz.underlying3 (hval 0 3 v0 rfl rfl) h0
  obtain ⟨l1, hs1, hm1⟩ := open_steps (hval 1 22 v1 rfl rfl) h1
  obtain ⟨l2, hs2, hm2⟩ := open_acts (hval 2 23 v2 rfl rfl) h2
  obtain ⟨l3, hs3, hm3⟩ := open_intsL (hval 3 24 v3 rfl rfl) h3
  clear hA0 hval0
  refine (ReorderShapes_walk a0 l1 l2 l3 hs1 hs2 hs3).mono fun e W' ⟨he, hg⟩ => ?_
  subst he
  refine ⟨_, rfl, row_end (pa := p0 ++ (p1 ++ (p2 ++ (p3 ++ ([]))))) (pv := []) hW' (fun _ _ _ => (trodAll_cons_mk (shut_bool Tryz.underlying4 _) trodAll_mk0)) (fun sp hsp => ?_) (fun _ _ => rfl) rfl hg (ok_one (by kernel_rfl) rfl (okWide_bool_mk Tryz.underlying4 _))⟩
  have hst := trodAll_stays (sp := sp) (W' := W') laidOut (fun t ht => ?_) hAk (fun x hx => hg.below_all.same (hlt x (by simpa using hx))) (fun x hx => hsp x (by simpa using hx))
  · rw [Tryz.params3]
    exact hst
  · simp only [List.mem_cons, List.not_mem_nil, or_false] at ht
    rcases ht with rfl | rfl | rfl | rfl
    all_goals exact ⟨by kernel_rfl, of_decide_eq_true (by kernel_rfl)⟩

theorem ReorderShapes_holds : Rows.ReorderShapesSaid :=
  OpenClaim.holds_of_wide 3 Tryz.f3 rfl rfl rfl rfl rfl rfl rfl ⟨rfl, rfl, rfl, rfl, rfl⟩ rfl rfl rfl rfl rfl (by kernel_rfl) Tryz.func3 (by kernel_rfl)
    (of_decide_eq_true (by kernel_rfl)) (by unfold Func.isWrapper; first | (rw [if_pos (by decide +kernel)]; kernel_rfl) | (rw [if_neg (by decide +kernel)]; exact ⟨rfl, rfl⟩))
    (fun os started H enc _ => ReorderShapes_lifted os started H enc)

#print axioms ReorderShapes_holds

end Go.Proofs.YtngbodmooddjbaaGreat
