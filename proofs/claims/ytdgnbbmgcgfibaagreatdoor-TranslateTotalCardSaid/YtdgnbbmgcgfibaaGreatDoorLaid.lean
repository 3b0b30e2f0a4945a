/-
 From the rows' condition to the table of the fields; the start in which it is met. Arguments that are structs of numbers, opened.
-/
import Derived.Test.YtdgnbbmgcgfibaaGreatDoorRunJ
import Derived.Test.YtdgnbbmgcgfibaaGreatDoorHw6
import Derived.Test.YtdgnbbmgcgfibaaGreatDoorTie
import Derived.Test.YtdgnbbmgcgfibaaGreatDoorCards
import Derived.LaidMore
import Derived.Stop.Joined
import Derived.ChangeSame
import Derived.SevenTiedAt
import Derived.Lib.SmallJoins
namespace Go.Proofs.YtdgnbbmgcgfibaaGreatDoor
open Go.ChangeShapes Go.WideShapes Go.ChangeAt Go.RowKit Go.Deep

abbrev laidL : List (String × DataW Unit) := [("netverify/header.fields", Rows.laid_netverify_header_fields)]
theorem gFields : Tryz.prog.globalNamed "netverify/header.fields" = some 0 := by kernel_rfl
theorem tFields : (Tryz.prog.globals[0]?).map (·.type) = some 176 := by kernel_rfl

theorem door_met (os : Os) (args : Array Value) : laidMetH Tryz.prog laidL ((World.doorLaid Tryz.prog 19 os).forCall (fun _ _ => 0) ⟨#[], args, []⟩).memory :=
 laidMetH_of_parts3 (fuel := 8) (laidMet_of_run' 8 (by kernel_rfl) (by kernel_rfl)) (by kernel_rfl) (by kernel_rfl)

section
variable {H : Type} {enc : TypeId × Value → H} {P : Program} {w : World} {base : Nat} {spare : Nat → Bool} {held : Bool}
theorem cells_int2 {t : TypeId} {f0 f1 : Field} {k0 k1 : IntKind} {fuel : Nat} {cs : List Value} {x : DataW H × List MemPlace} (ht : P.underlying t = some (.struct #[f0, f1])) (hC : P.cellsOf t = 2) (o0 : f0.offset = 0) (o1 : f1.offset = 1) (c0 : P.cellsOf f0.type = 1) (c1 : P.cellsOf f1.type = 1)
  (u0 : P.underlying f0.type = some (.int k0)) (u1 : P.underlying f1.type = some (.int k1)) (h : DataW.trod enc P w base spare held fuel t cs = some x) :
  ∃ a b : Int, cs = [.int k0 a, .int k1 b] ∧ x.1 = .agg [.lit (.int k0 a), .lit (.int k1 b)] ∧ (Lit.int k0 a).wf = true ∧ (Lit.int k1 b).wf = true := by
 obtain ⟨y0, y1, n, hx, hl, h0, h1⟩ := trod_struct2 ht h
 rw [o0, c0] at h0
 rw [o1, c1] at h1
 obtain ⟨a, e0, rfl, w0⟩ := DataW.trod_int u0 h0
 obtain ⟨b, e1, rfl, w1⟩ := DataW.trod_int u1 h1
 rw [hC] at hl
 match cs, hl with
 | [v0, v1], _ =>
  simp at e0 e1
  subst e0 e1
  exact ⟨a, b, rfl, by rw [hx], w0, w1⟩
end

theorem gl_of_laid {W : World} (h : laidMetH Tryz.prog laidL W) : Gl W := by
 rw [MakeChecks.laidMetH_plain _ _ _ (by kernel_rfl)] at h
 obtain ⟨ps, ⟨g0, t0, cs0, f0, p0, q0, hg0, ht0, hv0, hd0, _⟩, _, _⟩ := h
 obtain rfl := Option.some.inj (gFields.symm.trans hg0)
 obtain rfl := Option.some.inj (tFields.symm.trans ht0)
 obtain ⟨xs, m1, rfl, hx1, hlen, hn5, hel⟩ := DataW.trod_array Tryz.underlying176 hd0
 have c2 : Tryz.prog.cellsOf 175 = 2 := by kernel_rfl
 have c10 : Tryz.prog.cellsOf 176 = 10 := by kernel_rfl
 have cell : ∀ i, W.cell? ⟨0, i, none⟩ = cs0[i]? := fun i => World.var?_cell hg0 hv0 i
 rw [c10] at hlen
 rw [c2] at hel
 have el : ∀ i, i < 5 → ∃ a b : Int, (cs0.toList.drop (i * 2)).take 2 = [.int .i64 a, .int .i64 b] ∧ (xs.map (·.1))[i]? = some (.agg [.lit (.int .i64 a), .lit (.int .i64 b)]) := fun i hi => by
  have h1 := hel i hi
  have hxi : xs[i]? = some xs[i] := List.getElem?_eq_getElem (by omega)
  rw [hxi] at h1
  obtain ⟨a, b, e1, e2, _, _⟩ := cells_int2 (k0 := .i64) (k1 := .i64) Tryz.underlying175 c2 rfl rfl (by kernel_rfl) (by kernel_rfl) Tryz.underlying3 Tryz.underlying3 h1
  exact ⟨a, b, e1, by rw [List.getElem?_map, hxi, Option.map_some, e2]⟩
 simp only [Prod.mk.injEq] at hx1
 have hx2 : xs.map (·.1) = _ := (DataW.agg.inj hx1.1).symm
 intro i hi
 rw [cell i]
 obtain ⟨a, b, e1, e2⟩ := el (i / 2) (by omega)
 rw [hx2] at e2
 have r0 := congrArg (·[0]?) e1
 have r1 := congrArg (·[1]?) e1
 simp only [List.getElem?_take, List.getElem?_drop] at r0 r1
 have hi10 : i = 0 ∨ i = 1 ∨ i = 2 ∨ i = 3 ∨ i = 4 ∨ i = 5 ∨ i = 6 ∨ i = 7 ∨ i = 8 ∨ i = 9 := by omega
 rcases hi10 with rfl | rfl | rfl | rfl | rfl | rfl | rfl | rfl | rfl | rfl <;> simp at e2 r0 r1 <;> (obtain ⟨rfl, rfl⟩ := e2; first | exact r0 | exact r1)

theorem nat_u32 {a : Int} (h : (Lit.int .u32 a).wf = true) : ∃ n : Nat, a = (n : Int) ∧ n < 4294967296 := by
 have := bounds_u32 h
 exact ⟨a.toNat, by omega, by omega⟩

end Go.Proofs.YtdgnbbmgcgfibaaGreatDoor
