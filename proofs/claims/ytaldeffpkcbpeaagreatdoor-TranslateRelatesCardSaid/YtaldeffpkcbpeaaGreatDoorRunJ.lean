/-
  The arguments of the laws: what they read as, and that they read behind the call as before.
-/
import Derived.Test.YtaldeffpkcbpeaaGreatDoorRep
import Derived.Test.YtaldeffpkcbpeaaGreatDoorQ
import Derived.Deep.Slices
import Derived.Deep.Fields
namespace Go.Proofs.YtaldeffpkcbpeaaGreatDoor
open Go.ChangeShapes Go.WideShapes Go.ChangeAt Go.RowKit Go.Deep

theorem laidOut : laidOutB Tryz.prog = true := by kernel_rfl

section
variable {H : Type} {enc : TypeId × Value → H} {P : Program}

/-- The arguments read as they did. -/
theorem trodAll_stays (hl : laidOutB P = true) {W W' : World} {sp : Nat → Bool} : ∀ {ts : List TypeId} {vs : List Value} {ds : List (DataW H)} {ps : List MemPlace}, (∀ t ∈ ts, P.readableRec t = true ∧ t < P.types.size) →
    DataW.TrodAll enc P W 0 (fun _ => true) true ts vs ds ps → (∀ p ∈ ps, W.sameAt W' p) → (∀ p ∈ ps, sp p.block = true) → DataW.TrodAll enc P W' 0 sp true ts vs ds ps
  | [], _, _, _, _, h, _, _ => by
    obtain ⟨rfl, rfl, rfl⟩ := trodAll_nil h
    exact trodAll_mk0
  | t :: ts, _, _, _, hr, h, hs, hp => by
    obtain ⟨v, vs1, d, ds1, a, b, rfl, rfl, rfl, h1, h2⟩ := trodAll_cons h
    exact trodAll_cons_mk (WideElems.Trod_stays hl (hr t (by simp)).1 (hr t (by simp)).2 h1 (fun p hp' => hs p (by simp [hp'])) (fun p hp' => hp p (by simp [hp'])))
      (trodAll_stays hl (fun t ht => hr t (by simp [ht])) h2 (fun p hp' => hs p (by simp [hp'])) (fun p hp' => hp p (by simp [hp'])))

def isInt (P : Program) (t : TypeId) (k : IntKind) : Bool := match P.underlying t with | some (.int q) => decide (q = k) | _ => false
theorem isInt_of {t : TypeId} {k : IntKind} (h : isInt P t k = true) : P.underlying t = some (.int k) := by
  unfold isInt at h
  split at h
  · rename_i q hq; rw [hq, of_decide_eq_true h]
  · cases h
/-- All fields are numbers of these kinds. -/
def fieldInts (P : Program) (fs : Array Field) (kd : Nat → IntKind) : Bool := (List.range fs.size).all fun i => match fs[i]? with
  | some f => isInt P f.type (kd i)
  | none => false
theorem fieldInts_of {fs : Array Field} {kd : Nat → IntKind} (h : fieldInts P fs kd = true) : ∀ (j : Nat) (f : Field), fs[j]? = some f → P.underlying f.type = some (.int (kd j)) := by
  intro i f hi
  have hlt : i < fs.size := (Array.getElem?_eq_some_iff.1 hi).1
  have := List.all_eq_true.1 h i (List.mem_range.2 hlt)
  simp only [hi] at this
  exact isInt_of this

end

end Go.Proofs.YtaldeffpkcbpeaaGreatDoor
