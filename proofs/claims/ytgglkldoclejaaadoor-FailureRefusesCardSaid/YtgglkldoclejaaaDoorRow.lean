/-
  The last step of a row: the law has changed nothing that was there.
-/
import Derived.Test.YtgglkldoclejaaaDoorMaps
import Derived.ProofKit
import Derived.OpenShut
namespace Go.Proofs.YtgglkldoclejaaaDoor
open Go.ChangeShapes Go.WideShapes Go.ChangeAt Go.RowKit

theorem Kp.below_all {W W' : World} (h : Kp No W W') : Below W.heap.size W W' := h.below (Nat.le_refl _) (fun _ x => x.elim)

/-- What was there reads as it did, so the row's end is met. -/
theorem row_end {H : Type} {enc : TypeId × Value → H} {P : Program} {f : Func} {s : ChangeSpec} {apart fresh handsOn again : Bool} {W W' : World} {args : Array Value} {v : Value} {ds gs : List (DataW H)} {places pa pv : List MemPlace}
    (whole : DataW.Whole enc P f.params.toList s.vars apart W args.toList ds gs places)
    (res : ∀ (b : Nat) (sp : Nat → Bool) (hd : Bool), DataW.TrodAll enc P W' b sp hd f.resultTypes.toList (v.resultList f.resultTypes.size) (s.fn H (ds ++ gs)).results [])
    (again_args : ∀ sp : Nat → Bool, (∀ q ∈ places, sp q.block = true) → DataW.TrodAll enc P W' 0 sp true f.params.toList args.toList (s.fn H (ds ++ gs)).args pa)
    (again_vars : ∀ sp : Nat → Bool, (∀ q ∈ places, sp q.block = true) → DataW.TrodVars enc P W' sp s.vars (s.fn H (ds ++ gs)).vars pv)
    (split : places = pa ++ pv) (kept : Kp No W W')
    (ok : ∀ (j : Nat) (t : TypeId) (r : Value), f.resultTypes[j]? = some t → (v.resultList f.resultTypes.size)[j]? = some r → Value.okWide P W' .any 0 t r) :
    s.post enc P f apart fresh handsOn again W args v W' := by
  have below := kept.below_all
  have old : ∀ q ∈ places, q.block < W.heap.size := fun q hq => whole.lt q hq
  have mark : ∀ q ∈ places, (fun b => decide (b < W.heap.size)) q.block = true := fun q hq => decide_eq_true (old q hq)
  have frame := below.frame (· ∈ places)
  obtain ⟨w1, w2, w3, w4, w5, frozen, nodup⟩ := id whole
  have tail : ∀ q, q ∈ ([] ++ pa) ++ pv ↔ q ∈ places := fun q => by rw [split]; simp
  refine ⟨ds, gs, places, [], pa, pv, whole, res _ _ _, again_args _ mark, again_vars _ mark, World.keptBut_mono (fun q hq => ⟨hq, .inr (by rw [← List.mem_append, ← split]; exact hq)⟩) frame, fun _ => ?_⟩
  refine ⟨ok, _, _, ([] ++ pa) ++ pv, ⟨[] ++ pa, pv, trodAll_append (again_args _ (fun _ _ => rfl)) (res _ _ _), again_vars _ (fun _ _ => rfl), rfl, fun b off hq => ?_, fun ha => ?_⟩, fun q hq _ => ?_⟩
  · have hin := (tail _).1 hq
    rw [below.frozen (old _ hin)]
    exact frozen b off hin
  · have := nodup ha
    rw [split] at this
    simpa using this
  · exact (tail q).1 hq

theorem godebug_own : ownKnob Tryd.prog.godebug = none := by kernel_rfl

end Go.Proofs.YtgglkldoclejaaaDoor
