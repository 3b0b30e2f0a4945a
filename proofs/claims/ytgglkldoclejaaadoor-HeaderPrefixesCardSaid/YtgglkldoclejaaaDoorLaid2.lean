/-
  Arguments that are wildcards and prefixes, opened.
-/
import Derived.Test.YtgglkldoclejaaaDoorLaid
namespace Go.Proofs.YtgglkldoclejaaaDoor
open Go.ChangeShapes Go.WideShapes Go.ChangeAt Go.RowKit Go.Deep

theorem two_fields {P : Program} {t : TypeId} {kd : Nat → IntKind} (hone : oneCellFields P (P.fieldsOf t) = true) (hk : fieldInts P (P.fieldsOf t) kd = true) : ∀ (i : Nat) (f : Field), (P.fieldsOf t)[i]? = some f → f.offset = i ∧ P.cellsOf f.type = 1 ∧ P.underlying f.type = some (.int (kd i)) :=
  fun i f hf => ⟨(hone_of hone i f hf).1, (hone_of hone i f hf).2, fieldInts_of hk i f hf⟩

theorem open_two {H : Type} {enc : TypeId × Value → H} {P : Program} {w : World} {sp : Nat → Bool} {held : Bool} {r : Reach} {b0 : Nat} {t : TypeId} {v : Value} {d : DataW H} {ps : List MemPlace} {kd : Nat → IntKind}
    (hu : P.underlying t = some (.struct (P.fieldsOf t))) (hone : oneCellFields P (P.fieldsOf t) = true) (hk : fieldInts P (P.fieldsOf t) kd = true) (hc : P.cellsOf t = (P.fieldsOf t).size) (h2 : (P.fieldsOf t).size = 2)
    (hv : Value.okWide P w r b0 t v) (h : DataW.Trod enc P w 0 sp held t v d ps) : ∃ a b : Int, v = .agg #[.int (kd 0) a, .int (kd 1) b] ∧ (Lit.int (kd 0) a).wf = true ∧ (Lit.int (kd 1) b).wf = true := by
  obtain ⟨cs, rfl, hsz⟩ := okWide_struct hu hv
  obtain ⟨fuel, hf⟩ := h
  obtain ⟨hl, hcs⟩ := ints_of hu kd (two_fields hone hk) hc hf
  rw [h2] at hl hcs
  obtain ⟨a0, e0, f0⟩ := hcs 0 (by omega)
  obtain ⟨a1, e1, f1⟩ := hcs 1 (by omega)
  refine ⟨a0, a1, ?_, f0, f1⟩
  obtain ⟨l⟩ := cs
  simp only [Value.cells] at e0 e1 hl
  match l, hl with
  | [c0, c1], _ =>
    simp at e0 e1
    subst e0 e1
    rfl

structure WInR (x : Nat × Nat) : Prop where
  h0 : x.1 < 4294967296
  h1 : x.2 < 4294967296
set_option maxRecDepth 100000 in
theorem open_wild {H : Type} {enc : TypeId × Value → H} {w : World} {sp : Nat → Bool} {held : Bool} {r : Reach} {b0 : Nat} {v : Value} {d : DataW H} {ps : List MemPlace}
    (hv : Value.okWide Tryd.prog w r b0 52 v) (h : DataW.Trod enc Tryd.prog w 0 sp held 52 v d ps) : ∃ x : Nat × Nat, v = .agg #[.int .u32 (x.1 : Int), .int .u32 (x.2 : Int)] ∧ WInR x := by
  obtain ⟨a, b, rfl, f0, f1⟩ := open_two (kd := fun _ => .u32) (by kernel_rfl) (by kernel_rfl) (by kernel_rfl) (by kernel_rfl) (by kernel_rfl) hv h
  obtain ⟨n0, rfl, b0⟩ := nat_u32 f0
  obtain ⟨n1, rfl, b1⟩ := nat_u32 f1
  exact ⟨(n0, n1), rfl, b0, b1⟩
structure PInR (x : Nat × Int) : Prop where
  h0 : x.1 < 4294967296
  h1 : -9223372036854775808 ≤ x.2 ∧ x.2 ≤ 9223372036854775807
set_option maxRecDepth 100000 in
theorem open_pfx {H : Type} {enc : TypeId × Value → H} {w : World} {sp : Nat → Bool} {held : Bool} {r : Reach} {b0 : Nat} {v : Value} {d : DataW H} {ps : List MemPlace}
    (hv : Value.okWide Tryd.prog w r b0 57 v) (h : DataW.Trod enc Tryd.prog w 0 sp held 57 v d ps) : ∃ x : Nat × Int, v = .agg #[.int .u32 (x.1 : Int), .int .i64 x.2] ∧ PInR x := by
  obtain ⟨a, b, rfl, f0, f1⟩ := open_two (kd := fun i => if i = 0 then .u32 else .i64) (by kernel_rfl) (by kernel_rfl) (by kernel_rfl) (by kernel_rfl) (by kernel_rfl) hv h
  obtain ⟨n0, rfl, b0⟩ := nat_u32 f0
  exact ⟨(n0, b), rfl, b0, bounds_i64 f1⟩

end Go.Proofs.YtgglkldoclejaaaDoor
