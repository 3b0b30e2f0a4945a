/-
 Arguments that are matches, opened.
-/
import Derived.Test.YtdgnbbmgcgfibaaGreatDoorLaid
import Derived.Test.YtdgnbbmgcgfibaaGreatDoorHsm
namespace Go.Proofs.YtdgnbbmgcgfibaaGreatDoor
open Go.ChangeShapes Go.WideShapes Go.ChangeAt Go.RowKit Go.Deep

theorem field_at {P : Program} {t : TypeId} {i o : Nat} {ty : TypeId} (h : ((P.fieldsOf t)[i]?).map (fun f => (f.offset, f.type)) = some (o, ty)) : ∃ f, (P.fieldsOf t)[i]? = some f ∧ f.offset = o ∧ f.type = ty := by
 cases hf : (P.fieldsOf t)[i]? with
 | none => rw [hf] at h; cases h
 | some f =>
  rw [hf] at h
  simp only [Option.map_some, Option.some.injEq, Prod.mk.injEq] at h
  exact ⟨f, rfl, h.1, h.2⟩

set_option maxRecDepth 100000 in
theorem open_match {H : Type} {enc : TypeId × Value → H} {w : World} {sp : Nat → Bool} {held : Bool} {r : Reach} {b0 : Nat} {v : Value} {d : DataW H} {ps : List MemPlace}
  (hv : Value.okWide Tryz.prog w r b0 48 v) (h : DataW.Trod enc Tryz.prog w 0 sp held 48 v d ps) : ∃ m : Mt, v = mtV m ∧ m.in32 := by
 obtain ⟨cs, rfl, hsz⟩ := okWide_struct (fs := Tryz.prog.fieldsOf 48) (by kernel_rfl) hv
 obtain ⟨fuel, hf⟩ := h
 obtain ⟨xs, n, _, _, hl, hlen, hg⟩ := DataW.trod_struct (fs := Tryz.prog.fieldsOf 48) (by kernel_rfl) hf
 have c9 : Tryz.prog.cellsOf 48 = 9 := by kernel_rfl
 have s5 : (Tryz.prog.fieldsOf 48).size = 5 := by kernel_rfl
 have cP : Tryz.prog.cellsOf 44 = 2 := by kernel_rfl
 have cR : Tryz.prog.cellsOf 46 = 2 := by kernel_rfl
 have cI : Tryz.prog.cellsOf 3 = 1 := by kernel_rfl
 rw [c9] at hl
 rw [s5] at hlen
 obtain ⟨q0, e0, o0, t0⟩ := field_at (P := Tryz.prog) (t := 48) (i := 0) (o := 0) (ty := 44) (by kernel_rfl)
 obtain ⟨q1, e1, o1, t1⟩ := field_at (P := Tryz.prog) (t := 48) (i := 1) (o := 2) (ty := 44) (by kernel_rfl)
 obtain ⟨q2, e2, o2, t2⟩ := field_at (P := Tryz.prog) (t := 48) (i := 2) (o := 4) (ty := 3) (by kernel_rfl)
 obtain ⟨q3, e3, o3, t3⟩ := field_at (P := Tryz.prog) (t := 48) (i := 3) (o := 5) (ty := 46) (by kernel_rfl)
 obtain ⟨q4, e4, o4, t4⟩ := field_at (P := Tryz.prog) (t := 48) (i := 4) (o := 7) (ty := 46) (by kernel_rfl)
 have g0 := hg 0 q0 e0
 have g1 := hg 1 q1 e1
 have g2 := hg 2 q2 e2
 have g3 := hg 3 q3 e3
 have g4 := hg 4 q4 e4
 rw [o0, t0, cP, List.getElem?_eq_getElem (by omega)] at g0
 rw [o1, t1, cP, List.getElem?_eq_getElem (by omega)] at g1
 rw [o2, t2, cI, List.getElem?_eq_getElem (by omega)] at g2
 rw [o3, t3, cR, List.getElem?_eq_getElem (by omega)] at g3
 rw [o4, t4, cR, List.getElem?_eq_getElem (by omega)] at g4
 obtain ⟨sa, sl, d0, _, w0, _⟩ := cells_int2 (k0 := .u32) (k1 := .i64) Tryz.underlying44 cP rfl rfl (by kernel_rfl) (by kernel_rfl) Tryz.underlying42 Tryz.underlying3 g0
 obtain ⟨da, dl, d1, _, w1, _⟩ := cells_int2 (k0 := .u32) (k1 := .i64) Tryz.underlying44 cP rfl rfl (by kernel_rfl) (by kernel_rfl) Tryz.underlying42 Tryz.underlying3 g1
 obtain ⟨pr, d2, _, w2⟩ := DataW.trod_int Tryz.underlying3 g2
 obtain ⟨s0, s1, d3, _, w3, w3'⟩ := cells_int2 (k0 := .i64) (k1 := .i64) Tryz.underlying46 cR rfl rfl (by kernel_rfl) (by kernel_rfl) Tryz.underlying3 Tryz.underlying3 g3
 obtain ⟨x0, x1, d4, _, w4, w4'⟩ := cells_int2 (k0 := .i64) (k1 := .i64) Tryz.underlying46 cR rfl rfl (by kernel_rfl) (by kernel_rfl) Tryz.underlying3 Tryz.underlying3 g4
 obtain ⟨n0, rfl, b0⟩ := nat_u32 w0
 obtain ⟨n1, rfl, b1⟩ := nat_u32 w1
 refine ⟨⟨n0, sl, n1, dl, pr, s0, s1, x0, x1⟩, ?_, b0, b1, bounds_i64 w2, bounds_i64 w3, bounds_i64 w3', bounds_i64 w4, bounds_i64 w4'⟩
 obtain ⟨l⟩ := cs
 simp only [Value.cells] at d0 d1 d2 d3 d4 hl
 match l, hl with
 | [c0, c1, c2, c3, c4, c5, c6, c7, c8], _ =>
  simp at d0 d1 d2 d3 d4
  obtain ⟨rfl, rfl⟩ := d0
  obtain ⟨rfl, rfl⟩ := d1
  obtain ⟨rfl, rfl⟩ := d3
  obtain ⟨rfl, rfl⟩ := d4
  subst d2
  rfl

end Go.Proofs.YtdgnbbmgcgfibaaGreatDoor
