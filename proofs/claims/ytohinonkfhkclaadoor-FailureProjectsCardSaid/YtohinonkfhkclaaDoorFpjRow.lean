/-
  For all arguments the law FailureProjects of the package netverifylaw33 returns true and leaves all memory that was there as it was; the package variable header.fields holds what the program's text lays in it (the given tie).
-/
import Derived.Test.YtohinonkfhkclaaDoorFpj
import Derived.Test.YtohinonkfhkclaaDoorLaid
namespace Go.Proofs.YtohinonkfhkclaaDoor
open Go.ChangeShapes Go.WideShapes Go.ChangeAt Go.RowKit

set_option maxRecDepth 100000 in
theorem FailureProjects_lifted (os : Os) (started : os.Started) (H : Type) (enc : TypeId × Value → H) :
    ReturnsInHanded {} Tryd.checked os 5 .any (fun w args => (Rows.failureProjectsSpec.pre enc Tryd.prog Tryd.f5 [] false w args ∧ laidMetH Tryd.prog laidL w) ∧ sizedMet enc Tryd.prog Tryd.f5 (OpenSpec.ofChange Rows.failureProjectsSpec) false w args)
      (Rows.failureProjectsSpec.post enc Tryd.prog Tryd.f5 false true false false) := by
  refine returnsInHanded_of_change_and (C := Tryd.checked) (X := fun w _ => laidMetH Tryd.prog laidL w) (fun _ _ _ hh h => h.of_heap hh) godebug_own started (by kernel_rfl) Tryd.func5
    (ChangeSpec.witness_shaped (enc := enc) (C := Tryd.checked) (os := os) (X := fun w _ => laidMetH Tryd.prog laidL w) false (World.doorLaid Tryd.prog 19 os) #[.slice none 0 0, .slice none 0 0, .int .u16 0, .int .u16 0] 8 rfl (World.shaped_of_RefB (by kernel_rfl) (by kernel_rfl)) (by kernel_rfl) (by kernel_rfl) (by kernel_rfl) (door_met os _)) ?_
  intro W base args ds gs before hval0 hW _ _ hL _
  have hval : ∀ (j : Nat) t v, Tryd.f5.params[j]? = some t → args[j]? = some v → Value.okWide Tryd.prog W .any base t v := hval0
  have gl := gl_of_laid hL
  have hW' := hW
  obtain ⟨p, q, hA0, hV, rfl, hfz, hnd⟩ := hW
  have hA : DataW.TrodAll enc Tryd.prog W 0 (fun _ => true) true Tryd.f5.params.toList args.toList ds p := hA0
  rw [Tryd.params5] at hA hval
  have hAk := hA
  obtain ⟨v0, vs0, d0, ds0, p0, q0, hargs, rfl, rfl, h0, r0⟩ := trodAll_cons hA
  obtain ⟨v1, vs1, d1, ds1, p1, q1, rfl, rfl, rfl, h1, r1⟩ := trodAll_cons r0
  obtain ⟨v2, vs2, d2, ds2, p2, q2, rfl, rfl, rfl, h2, r2⟩ := trodAll_cons r1
  obtain ⟨v3, vs3, d3, ds3, p3, q3, rfl, rfl, rfl, h3, r3⟩ := trodAll_cons r2
  obtain ⟨rfl, rfl, rfl⟩ := trodAll_nil r3
  obtain rfl : args = #[v0, v1, v2, v3] := by cases args; simp_all
  obtain ⟨rfl, rfl⟩ := trodVars_none hV
  have hlt : ∀ x ∈ p0 ++ p1 ++ p2 ++ p3, x.block < W.heap.size := fun x hx => hW'.lt x (by simpa using hx)
  obtain ⟨l0, hs0, hm0⟩ := open_u16L (hval 0 22 v0 rfl rfl) h0
  obtain ⟨l1, hs1, hm1⟩ := open_u16L (hval 1 22 v1 rfl rfl) h1
  obtain ⟨a2, rfl, hd2, hp2, wf2⟩ := open_int Tryd.underlying30 (hval 2 30 v2 rfl rfl) h2
  obtain ⟨n2, rfl, hn2⟩ := nat_u16 wf2
  obtain ⟨a3, rfl, hd3, hp3, wf3⟩ := open_int Tryd.underlying30 (hval 3 30 v3 rfl rfl) h3
  obtain ⟨n3, rfl, hn3⟩ := nat_u16 wf3
  clear hA0 hval0
  refine (FailureProjects_walk l0 l1 n2 n3 hs0 hs1 hn2 hn3 gl).mono fun e W' ⟨he, hg⟩ => ?_
  subst he
  refine ⟨_, rfl, row_end (pa := p0 ++ (p1 ++ (p2 ++ (p3 ++ ([]))))) (pv := []) hW' (fun _ _ _ => (trodAll_cons_mk (shut_bool Tryd.underlying4 _) trodAll_mk0)) (fun sp hsp => ?_) (fun _ _ => rfl) rfl hg (ok_one (by kernel_rfl) rfl (okWide_bool_mk Tryd.underlying4 _))⟩
  have hst := trodAll_stays (sp := sp) (W' := W') laidOut (fun t ht => ?_) hAk (fun x hx => hg.below_all.same (hlt x (by simpa using hx))) (fun x hx => hsp x (by simpa using hx))
  · rw [Tryd.params5]
    exact hst
  · simp only [List.mem_cons, List.not_mem_nil, or_false] at ht
    rcases ht with rfl | rfl | rfl | rfl
    all_goals exact ⟨by kernel_rfl, of_decide_eq_true (by kernel_rfl)⟩

theorem FailureProjects_row : Rows.FailureProjectsSaid :=
  OpenClaim.holds_of_wide 5 Tryd.f5 rfl rfl rfl rfl rfl rfl rfl ⟨rfl, rfl, rfl, rfl, rfl⟩ rfl rfl rfl rfl rfl (by kernel_rfl) Tryd.func5 (by kernel_rfl)
    (of_decide_eq_true (by kernel_rfl)) (by unfold Func.isWrapper; first | (rw [if_pos (by decide +kernel)]; kernel_rfl) | (rw [if_neg (by decide +kernel)]; exact ⟨rfl, rfl⟩))
    (fun os started H enc _ => FailureProjects_lifted os started H enc)

theorem FailureProjects_holds : Rows.FailureProjectsCardSaid :=
  Claim7.holds_tied_plain_at .later [] [.data] true Rows.failureProjectsCard.stood.harness false
    FailureProjects_row (fun _ h => by cases h) (by kernel_rfl) (fun _ h => by cases h) failureProjects_row_tie rfl ⟨rfl, rfl⟩ (by kernel_rfl) rfl
    (fun f fn hf hfn => by
      obtain rfl : f = 5 := Option.some.inj ((show Tryd.prog.funcNamed "netverify/netverifylaw33.FailureProjects" = some 5 by kernel_rfl).symm.trans hf) |>.symm
      obtain rfl : fn = Tryd.f5 := (Option.some.inj (Tryd.func5.symm.trans hfn)).symm
      exact ⟨by kernel_rfl, fun j t ht => by
        rw [Tryd.params5] at ht
        have hm : t ∈ ([22, 22, 30, 30] : List TypeId) := by simpa using Array.mem_of_getElem? ht
        have hall : (([22, 22, 30, 30] : List TypeId).all fun u => !Tryd.prog.wantsStandIn u) = true := by kernel_rfl
        exact (show Tryd.prog.wantsStandIn t = false by simpa using List.all_eq_true.1 hall t hm)⟩)
    (by kernel_rfl)

#print axioms FailureProjects_holds

end Go.Proofs.YtohinonkfhkclaaDoor
