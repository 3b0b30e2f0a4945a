/-
  Arguments that are numbers of 16 bits, and lists of them.
-/
import Derived.Test.YtohinonkfhkclaaDoorRunJ
import Derived.Test.YtohinonkfhkclaaDoorHw3
import Derived.Test.YtohinonkfhkclaaDoorTie
import Derived.Test.YtohinonkfhkclaaDoorCards
import Derived.LaidMore
import Derived.Stop.Joined
import Derived.ChangeSame
import Derived.SevenTiedAt
import Derived.Lib.SmallJoins
namespace Go.Proofs.YtohinonkfhkclaaDoor
open Go.ChangeShapes Go.WideShapes Go.ChangeAt Go.RowKit Go.Deep

abbrev laidL : List (String × DataW Unit) := [("netverify/header.fields", Rows.laid_netverify_header_fields)]
theorem gFields : Tryd.prog.globalNamed "netverify/header.fields" = some 0 := by kernel_rfl
theorem tFields : (Tryd.prog.globals[0]?).map (·.type) = some 121 := by kernel_rfl

theorem door_met (os : Os) (args : Array Value) : laidMetH Tryd.prog laidL ((World.doorLaid Tryd.prog 19 os).forCall (fun _ _ => 0) ⟨#[], args, []⟩).memory :=
  laidMetH_of_parts3 (fuel := 8) (laidMet_of_run' 8 (by kernel_rfl) (by kernel_rfl)) (by kernel_rfl) (by kernel_rfl)

section
variable {H : Type} {enc : TypeId × Value → H} {P : Program} {w : World} {base : Nat} {spare : Nat → Bool} {held : Bool}
/-- A struct of two integers, opened to its cells. -/
theorem cells_int2 {t : TypeId} {f0 f1 : Field} {k0 k1 : IntKind} {fuel : Nat} {cs : List Value} {x : DataW H × List MemPlace} (ht : P.underlying t = some (.struct #[f0, f1])) (hC : P.cellsOf t = 2) (o0 : f0.offset = 0) (o1 : f1.offset = 1) (c0 : P.cellsOf f0.type = 1) (c1 : P.cellsOf f1.type = 1)
    (u0 : P.underlying f0.type = some (.int k0)) (u1 : P.underlying f1.type = some (.int k1)) (h : DataW.trod enc P w base spare held fuel t cs = some x) :
    ∃ a b : Int, cs = [.int k0 a, .int k1 b] ∧ x.1 = .agg [.lit (.int k0 a), .lit (.int k1 b)] ∧ (Lit.int k0 a).wf = true ∧ (Lit.int k1 b).wf = true := by
  obtain ⟨y0, y1, n, hx, hl, h0, h1⟩ := trod_struct2 ht h
  rw [o0, c0] at h0
  rw [o1, c1] at h1
  obtain ⟨a, e0, rfl, w0⟩ := DataW.trod_int u0 h0
  obtain ⟨b, e1, rfl, w1⟩ := DataW.trod_int u1 h1
  rw [hC] at hl
  match cs, hl with
  | [v0, v1], _ =>
    simp at e0 e1
    subst e0 e1
    exact ⟨a, b, rfl, by rw [hx], w0, w1⟩
end

theorem gl_of_laid {W : World} (h : laidMetH Tryd.prog laidL W) : Gl W := by
  rw [MakeChecks.laidMetH_plain _ _ _ (by kernel_rfl)] at h
  obtain ⟨ps, ⟨g0, t0, cs0, f0, p0, q0, hg0, ht0, hv0, hd0, _⟩, _, _⟩ := h
  obtain rfl := Option.some.inj (gFields.symm.trans hg0)
  obtain rfl := Option.some.inj (tFields.symm.trans ht0)
  obtain ⟨xs, m1, rfl, hx1, hlen, hn5, hel⟩ := DataW.trod_array Tryd.underlying121 hd0
  have c2 : Tryd.prog.cellsOf 120 = 2 := by kernel_rfl
  have c10 : Tryd.prog.cellsOf 121 = 10 := by kernel_rfl
  have cell : ∀ i, W.cell? ⟨0, i, none⟩ = cs0[i]? := fun i => World.var?_cell hg0 hv0 i
  rw [c10] at hlen
  rw [c2] at hel
  have el : ∀ i, i < 5 → ∃ a b : Int, (cs0.toList.drop (i * 2)).take 2 = [.int .i64 a, .int .i64 b] ∧ (xs.map (·.1))[i]? = some (.agg [.lit (.int .i64 a), .lit (.int .i64 b)]) := fun i hi => by
    have h1 := hel i hi
    have hxi : xs[i]? = some xs[i] := List.getElem?_eq_getElem (by omega)
    rw [hxi] at h1
    obtain ⟨a, b, e1, e2, _, _⟩ := cells_int2 (k0 := .i64) (k1 := .i64) Tryd.underlying120 c2 rfl rfl (by kernel_rfl) (by kernel_rfl) Tryd.underlying3 Tryd.underlying3 h1
    exact ⟨a, b, e1, by rw [List.getElem?_map, hxi, Option.map_some, e2]⟩
  simp only [Prod.mk.injEq] at hx1
  have hx2 : xs.map (·.1) = _ := (DataW.agg.inj hx1.1).symm
  intro i hi
  rw [cell i]
  obtain ⟨a, b, e1, e2⟩ := el (i / 2) (by omega)
  rw [hx2] at e2
  have r0 := congrArg (·[0]?) e1
  have r1 := congrArg (·[1]?) e1
  simp only [List.getElem?_take, List.getElem?_drop] at r0 r1
  have hi10 : i = 0 ∨ i = 1 ∨ i = 2 ∨ i = 3 ∨ i = 4 ∨ i = 5 ∨ i = 6 ∨ i = 7 ∨ i = 8 ∨ i = 9 := by omega
  rcases hi10 with rfl | rfl | rfl | rfl | rfl | rfl | rfl | rfl | rfl | rfl <;> simp at e2 r0 r1 <;> (obtain ⟨rfl, rfl⟩ := e2; first | exact r0 | exact r1)

theorem nat_u32 {a : Int} (h : (Lit.int .u32 a).wf = true) : ∃ n : Nat, a = (n : Int) ∧ n < 4294967296 := by
  have := bounds_u32 h
  exact ⟨a.toNat, by omega, by omega⟩

/-- The cells of a struct of integers. -/
theorem ints_of {H : Type} {enc : TypeId × Value → H} {P : Program} {w : World} {sp : Nat → Bool} {held : Bool} {fuel : Nat} {t : TypeId} {fs : Array Field} {cs : List Value} {x : DataW H × List MemPlace} (hs : P.underlying t = some (.struct fs)) (kd : Nat → IntKind)
    (hone : ∀ (i : Nat) (f : Field), fs[i]? = some f → f.offset = i ∧ P.cellsOf f.type = 1 ∧ P.underlying f.type = some (.int (kd i))) (hc : P.cellsOf t = fs.size) (h : DataW.trod enc P w 0 sp held fuel t cs = some x) :
    cs.length = fs.size ∧ ∀ i, i < fs.size → ∃ a : Int, cs[i]? = some (.int (kd i) a) ∧ (Lit.int (kd i) a).wf = true := by
  obtain ⟨xs, n, _, _, hl, hlen, hg⟩ := DataW.trod_struct hs h
  refine ⟨by rw [hl, hc], fun i hi => ?_⟩
  have hf : fs[i]? = some fs[i] := by simp [hi]
  obtain ⟨o, c, u⟩ := hone i _ hf
  have hx := hg i _ hf
  rw [o, c, List.getElem?_eq_getElem (by omega)] at hx
  obtain ⟨a, e, _, wf⟩ := DataW.trod_int u hx
  refine ⟨a, ?_, wf⟩
  have := congrArg (·[0]?) e
  simpa [List.getElem?_take, List.getElem?_drop] using this

theorem pkt_fields : ∀ (i : Nat) (f : Field), (Tryd.prog.fieldsOf 48)[i]? = some f → f.offset = i ∧ Tryd.prog.cellsOf f.type = 1 ∧ Tryd.prog.underlying f.type = some (.int (if i < 2 then .u32 else .i64)) := by
  have hone : oneCellFields Tryd.prog (Tryd.prog.fieldsOf 48) = true := by kernel_rfl
  have hk : fieldInts Tryd.prog (Tryd.prog.fieldsOf 48) (fun i => if i < 2 then .u32 else .i64) = true := by kernel_rfl
  exact fun i f hf => ⟨(hone_of hone i f hf).1, (hone_of hone i f hf).2, fieldInts_of hk i f hf⟩

set_option maxRecDepth 100000 in
theorem open_pkt {H : Type} {enc : TypeId × Value → H} {w : World} {sp : Nat → Bool} {held : Bool} {r : Reach} {b0 : Nat} {v : Value} {d : DataW H} {ps : List MemPlace}
    (hv : Value.okWide Tryd.prog w r b0 48 v) (h : DataW.Trod enc Tryd.prog w 0 sp held 48 v d ps) : ∃ p : Pkt, v = pktV p ∧ p.in32 := by
  obtain ⟨cs, rfl, hsz⟩ := okWide_struct (fs := Tryd.prog.fieldsOf 48) (by kernel_rfl) hv
  obtain ⟨fuel, hf⟩ := h
  obtain ⟨hl, hc⟩ := ints_of (fs := Tryd.prog.fieldsOf 48) (by kernel_rfl) _ pkt_fields (by kernel_rfl) hf
  have hs5 : (Tryd.prog.fieldsOf 48).size = 5 := by kernel_rfl
  rw [hs5] at hl hc
  obtain ⟨a0, e0, f0⟩ := hc 0 (by omega)
  obtain ⟨a1, e1, f1⟩ := hc 1 (by omega)
  obtain ⟨a2, e2, _⟩ := hc 2 (by omega)
  obtain ⟨a3, e3, _⟩ := hc 3 (by omega)
  obtain ⟨a4, e4, _⟩ := hc 4 (by omega)
  obtain ⟨n0, rfl, b0⟩ := nat_u32 f0
  obtain ⟨n1, rfl, b1⟩ := nat_u32 f1
  refine ⟨⟨n0, n1, a2, a3, a4⟩, ?_, b0, b1⟩
  obtain ⟨l⟩ := cs
  simp only [Value.cells] at e0 e1 e2 e3 e4 hl
  match l, hl with
  | [c0, c1, c2, c3, c4], _ =>
    simp at e0 e1 e2 e3 e4
    subst e0 e1 e2 e3 e4
    rfl

end Go.Proofs.YtohinonkfhkclaaDoor

namespace Go.Proofs.YtohinonkfhkclaaDoor
open Go.ChangeShapes Go.WideShapes Go.ChangeAt Go.RowKit Go.Deep

theorem two_fields {P : Program} {t : TypeId} {kd : Nat → IntKind} (hone : oneCellFields P (P.fieldsOf t) = true) (hk : fieldInts P (P.fieldsOf t) kd = true) : ∀ (i : Nat) (f : Field), (P.fieldsOf t)[i]? = some f → f.offset = i ∧ P.cellsOf f.type = 1 ∧ P.underlying f.type = some (.int (kd i)) :=
  fun i f hf => ⟨(hone_of hone i f hf).1, (hone_of hone i f hf).2, fieldInts_of hk i f hf⟩

theorem open_two {H : Type} {enc : TypeId × Value → H} {P : Program} {w : World} {sp : Nat → Bool} {held : Bool} {r : Reach} {b0 : Nat} {t : TypeId} {v : Value} {d : DataW H} {ps : List MemPlace} {kd : Nat → IntKind}
    (hu : P.underlying t = some (.struct (P.fieldsOf t))) (hone : oneCellFields P (P.fieldsOf t) = true) (hk : fieldInts P (P.fieldsOf t) kd = true) (hc : P.cellsOf t = (P.fieldsOf t).size) (h2 : (P.fieldsOf t).size = 2)
    (hv : Value.okWide P w r b0 t v) (h : DataW.Trod enc P w 0 sp held t v d ps) : ∃ a b : Int, v = .agg #[.int (kd 0) a, .int (kd 1) b] ∧ (Lit.int (kd 0) a).wf = true ∧ (Lit.int (kd 1) b).wf = true := by
  obtain ⟨cs, rfl, hsz⟩ := okWide_struct hu hv
  obtain ⟨fuel, hf⟩ := h
  obtain ⟨hl, hcs⟩ := ints_of hu kd (two_fields hone hk) hc hf
  rw [h2] at hl hcs
  obtain ⟨a0, e0, f0⟩ := hcs 0 (by omega)
  obtain ⟨a1, e1, f1⟩ := hcs 1 (by omega)
  refine ⟨a0, a1, ?_, f0, f1⟩
  obtain ⟨l⟩ := cs
  simp only [Value.cells] at e0 e1 hl
  match l, hl with
  | [c0, c1], _ =>
    simp at e0 e1
    subst e0 e1
    rfl

structure WInR (x : Nat × Nat) : Prop where
  h0 : x.1 < 4294967296
  h1 : x.2 < 4294967296
set_option maxRecDepth 100000 in
theorem open_wild {H : Type} {enc : TypeId × Value → H} {w : World} {sp : Nat → Bool} {held : Bool} {r : Reach} {b0 : Nat} {v : Value} {d : DataW H} {ps : List MemPlace}
    (hv : Value.okWide Tryd.prog w r b0 131 v) (h : DataW.Trod enc Tryd.prog w 0 sp held 131 v d ps) : ∃ x : Nat × Nat, v = .agg #[.int .u32 (x.1 : Int), .int .u32 (x.2 : Int)] ∧ WInR x := by
  obtain ⟨a, b, rfl, f0, f1⟩ := open_two (kd := fun _ => .u32) (by kernel_rfl) (by kernel_rfl) (by kernel_rfl) (by kernel_rfl) (by kernel_rfl) hv h
  obtain ⟨n0, rfl, b0⟩ := nat_u32 f0
  obtain ⟨n1, rfl, b1⟩ := nat_u32 f1
  exact ⟨(n0, n1), rfl, b0, b1⟩
structure PInR (x : Nat × Int) : Prop where
  h0 : x.1 < 4294967296
  h1 : -9223372036854775808 ≤ x.2 ∧ x.2 ≤ 9223372036854775807
set_option maxRecDepth 100000 in
theorem open_pfx {H : Type} {enc : TypeId × Value → H} {w : World} {sp : Nat → Bool} {held : Bool} {r : Reach} {b0 : Nat} {v : Value} {d : DataW H} {ps : List MemPlace}
    (hv : Value.okWide Tryd.prog w r b0 42 v) (h : DataW.Trod enc Tryd.prog w 0 sp held 42 v d ps) : ∃ x : Nat × Int, v = .agg #[.int .u32 (x.1 : Int), .int .i64 x.2] ∧ PInR x := by
  obtain ⟨a, b, rfl, f0, f1⟩ := open_two (kd := fun i => if i = 0 then .u32 else .i64) (by kernel_rfl) (by kernel_rfl) (by kernel_rfl) (by kernel_rfl) (by kernel_rfl) hv h
  obtain ⟨n0, rfl, b0⟩ := nat_u32 f0
  exact ⟨(n0, b), rfl, b0, bounds_i64 f1⟩

end Go.Proofs.YtohinonkfhkclaaDoor

namespace Go.Proofs.YtohinonkfhkclaaDoor
open Go.RowKit

theorem SrcAt.of_ints {w : World} {v : Value} {l : List Int} (h : IntsAt w v l) : SrcAt w v 1 l.length (l.map intV) := by
  obtain ⟨ao, c, hv, _, hc⟩ := h
  refine ⟨ao, c, hv, by simp, ?_⟩
  rcases hc with hc | ⟨g, o, rfl, hg, hc⟩
  · exact .inl (by simp [hc])
  · refine .inr ⟨g, o, rfl, hg, fun j u hu => ?_⟩
    rw [List.getElem?_map] at hu
    obtain ⟨y, hy, rfl⟩ := Option.map_eq_some_iff.1 hu
    exact hc j y hy

theorem IntsAt.len {w : World} {v : Value} {l : List Int} (h : IntsAt w v l) : l.length ≤ maxLen := by
  obtain ⟨_, _, _, h, _⟩ := h
  exact h

end Go.Proofs.YtohinonkfhkclaaDoor

namespace Go.Proofs.YtohinonkfhkclaaDoor
open Go.ChangeShapes Go.WideShapes Go.ChangeAt Go.RowKit Go.Deep

theorem nat_u16 {a : Int} (h : (Lit.int .u16 a).wf = true) : ∃ n : Nat, a = (n : Int) ∧ n < 65536 := by
  have := bounds_u16 h
  exact ⟨a.toNat, by omega, by omega⟩

def u16V (n : Nat) : Value := .int .u16 (n : Int)
/-- A slice of numbers of 16 bits that reads as a list. -/
structure U16At (w : World) (v : Value) (l : List Nat) : Prop where
  src : SrcAt w v 1 l.length (l.map u16V)
  lt : ∀ x, x ∈ l → x < 65536
  len : l.length ≤ maxLen
set_option maxRecDepth 100000 in
theorem open_u16L {H : Type} {enc : TypeId × Value → H} {w : World} {sp : Nat → Bool} {held : Bool} {r : Reach} {b0 : Nat} {v : Value} {d : DataW H} {ps : List MemPlace}
    (hv : Value.okWide Tryd.prog w r b0 22 v) (h : DataW.Trod enc Tryd.prog w 0 sp held 22 v d ps) : ∃ l, U16At w v l ∧ True := by
  obtain ⟨l, ao, c, hv, hl, hc⟩ := open_ones (α := { y : Nat // y < 65536 }) (fun y => u16V y.1) Tryd.underlying22 (by kernel_rfl) (fun n u x hx => by
    obtain ⟨b, hb, _, hw⟩ := DataW.trod_int Tryd.underlying30 hx
    obtain ⟨n, rfl, hn⟩ := nat_u16 hw
    exact ⟨⟨n, hn⟩, (List.cons.inj hb).1⟩) hv h
  refine ⟨l.map (·.1), ⟨⟨ao, c, by simpa using hv, by simp, ?_⟩, fun x hx => ?_, by simpa using hl⟩, trivial⟩
  · rcases hc with hc | ⟨g, o, rfl, hg, hc⟩
    · exact .inl (by simp [hc])
    · refine .inr ⟨g, o, rfl, hg, fun i y hy => ?_⟩
      rw [List.map_map, List.getElem?_map] at hy
      obtain ⟨z, hz, rfl⟩ := Option.map_eq_some_iff.1 hy
      exact hc i z hz
  · obtain ⟨y, _, rfl⟩ := List.mem_map.1 hx
    exact y.2

end Go.Proofs.YtohinonkfhkclaaDoor
