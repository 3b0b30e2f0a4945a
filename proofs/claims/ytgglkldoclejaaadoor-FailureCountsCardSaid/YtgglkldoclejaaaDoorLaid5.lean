/-
  Arguments that are numbers of 16 bits, and lists of them.
-/
import Derived.Test.YtgglkldoclejaaaDoorLaid
namespace Go.Proofs.YtgglkldoclejaaaDoor
open Go.ChangeShapes Go.WideShapes Go.ChangeAt Go.RowKit Go.Deep

theorem nat_u16 {a : Int} (h : (Lit.int .u16 a).wf = true) : ∃ n : Nat, a = (n : Int) ∧ n < 65536 := by
  have := bounds_u16 h
  exact ⟨a.toNat, by omega, by omega⟩

def u16V (n : Nat) : Value := .int .u16 (n : Int)
/-- A slice of numbers of 16 bits that reads as a list. -/
structure U16At (w : World) (v : Value) (l : List Nat) : Prop where
  src : SrcAt w v 1 l.length (l.map u16V)
  lt : ∀ x, x ∈ l → x < 65536
set_option maxRecDepth 100000 in
theorem open_u16L {H : Type} {enc : TypeId × Value → H} {w : World} {sp : Nat → Bool} {held : Bool} {r : Reach} {b0 : Nat} {v : Value} {d : DataW H} {ps : List MemPlace}
    (hv : Value.okWide Tryd.prog w r b0 78 v) (h : DataW.Trod enc Tryd.prog w 0 sp held 78 v d ps) : ∃ l, U16At w v l ∧ True := by
  obtain ⟨l, ao, c, hv, hl, hc⟩ := open_ones (α := { y : Nat // y < 65536 }) (fun y => u16V y.1) Tryd.underlying78 (by kernel_rfl) (fun n u x hx => by
    obtain ⟨b, hb, _, hw⟩ := DataW.trod_int Tryd.underlying73 hx
    obtain ⟨n, rfl, hn⟩ := nat_u16 hw
    exact ⟨⟨n, hn⟩, (List.cons.inj hb).1⟩) hv h
  refine ⟨l.map (·.1), ⟨⟨ao, c, by simpa using hv, by simp, ?_⟩, fun x hx => ?_⟩, trivial⟩
  · rcases hc with hc | ⟨g, o, rfl, hg, hc⟩
    · exact .inl (by simp [hc])
    · refine .inr ⟨g, o, rfl, hg, fun i y hy => ?_⟩
      rw [List.map_map, List.getElem?_map] at hy
      obtain ⟨z, hz, rfl⟩ := Option.map_eq_some_iff.1 hy
      exact hc i z hz
  · obtain ⟨y, _, rfl⟩ := List.mem_map.1 hx
    exact y.2

end Go.Proofs.YtgglkldoclejaaaDoor
