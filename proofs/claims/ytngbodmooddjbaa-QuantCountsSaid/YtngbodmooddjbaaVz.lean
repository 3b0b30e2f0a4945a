/-
  Walks: 'SortedFunc' of the package slices at no variable.
-/
import Derived.Test.YtngbodmooddjbaaVm
import Derived.Shelf.SlSortCmp.NoneTotal
namespace Go.Proofs.Ytngbodmooddjbaa
open Go.RowKit Go.Lib Go.Shelf Go.Sort

set_option maxRecDepth 100000 in
set_option maxHeartbeats 2000000 in
theorem SortedFunc_zero (Bs bx : Nat) (sv : Value) (lev : Nat → Nat) {w : World} (hBs : Bs < w.heap.size) (hc : w.cell? ⟨Bs, 0, none⟩ = some sv) (hI : SrcAt w sv 1 0 []) :
    Calls Try.prog 95 #[.func (.func 119) #[] #[.pointer (some ⟨Bs, 0, none⟩)], .func (.func 97) #[] #[.pointer (some ⟨bx, 0, none⟩)]] w (SrtPost w lev []) := by
  have CO := Lib.hid (Collect_ok Bs sv [] (by simp) (by simp) w hBs hc hI)
  have SF : Hid (∀ (w1 : World) (a : Option Addr) (cap : Nat), Calls Try.prog 118 #[.slice a 0 cap, .func (.func 97) #[] #[.pointer (some ⟨bx, 0, none⟩)]] w1 fun e w' => e = .returned (.tuple #[]) ∧ w' = w1) := Lib.hid (fun w1 a cap => by
    haveI : Inhabited Nat := ⟨0⟩
    exact AnyF.slices_SortFunc_none { Try.sortInts with } a cap _ w1)
  clear hc hI
  go_enter Try.func95, Try.ntmps95
  go_wp2_with fail
  refine CO.out.mono ?_
  rintro e w1 ⟨v, rfl, row, k1⟩
  obtain ⟨a, cap, rfl⟩ := rowForm row
  have RET : Hid (SrtPost w lev [] (.returned (.slice a 0 cap)) w1) := Lib.hid ⟨a, cap, [], rfl, List.Perm.refl _, List.Pairwise.nil, row, k1⟩
  clear row k1 CO
  go_wp2_with fail
  refine (SF.out w1 a cap).mono ?_
  rintro e w2 ⟨rfl, rfl⟩
  clear SF
  go_wp2_with fail
  go_ret
  exact RET.out

theorem SortedFunc_any (Bs bx gl n c : Nat) (sv : Value) (lev : Nat → Nat) (vs : List Nat) (hvs : ∀ v, v ∈ vs → v < n) (hlen : vs.length ≤ 1000000) {w : World} (hBs : Bs < w.heap.size) (hc : w.cell? ⟨Bs, 0, none⟩ = some sv) (hI : SrcAt w sv 1 vs.length (vs.map natV))
    (hbx : bx < w.heap.size) (hgl : gl < w.heap.size) (hb : w.cell? ⟨bx, 0, none⟩ = some (.slice (some ⟨gl, 0, none⟩) n c)) (hl : ∀ v, v < n → w.cell? ⟨gl, v, none⟩ = some (.int .i64 (lev v : Int))) :
    Calls Try.prog 95 #[.func (.func 119) #[] #[.pointer (some ⟨Bs, 0, none⟩)], .func (.func 97) #[] #[.pointer (some ⟨bx, 0, none⟩)]] w (SrtPost w lev vs) := by
  rcases Nat.eq_zero_or_pos vs.length with h | h
  · have := List.length_eq_zero_iff.1 h
    subst this
    exact SortedFunc_zero Bs bx sv lev hBs hc hI
  · exact SortedFunc_ok Bs bx gl n c sv lev vs hvs hlen hBs hc hI h hbx hgl hb hl

end Go.Proofs.Ytngbodmooddjbaa
