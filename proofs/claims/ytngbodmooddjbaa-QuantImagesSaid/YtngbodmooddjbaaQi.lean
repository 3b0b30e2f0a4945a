/-
  Walks: the functions of 'quant' at Refs that are not valid; the law QuantInvalid.
-/
import Derived.Test.YtngbodmooddjbaaQw
namespace Go.Proofs.Ytngbodmooddjbaa
open Go.RowKit

section
variable {p : Nat} {M : Mgr} {L : Lay} {w : World} {f g h : Int}
theorem Not_inv (R : Rep w p M L) (hf : M.valid f = false) (hl : M.nodes.length ≤ big) : Calls Try.prog 27 #[ptr p, .int .i64 f] w (Ret p L w M (.int .i64 (-1))) := by
  have e : M.notM f = (M, -1) := if_neg (fun h => by rw [hf] at h; cases h.1)
  have := Not_ok f R (by rw [e]; exact hl)
  rw [e] at this; exact this
theorem Ite_inv (R : Rep w p M L) (hf : M.valid f = false ∨ M.valid g = false ∨ M.valid h = false) (hl : M.nodes.length ≤ big) : Calls Try.prog 50 #[ptr p, .int .i64 f, .int .i64 g, .int .i64 h] w (Ret p L w M (.int .i64 (-1))) := by
  have e : M.iteM f g h = (M, -1) := if_neg (fun k => by
    rcases hf with h1 | h1 | h1
    · rw [h1] at k; cases k.1
    · rw [h1] at k; cases k.2.1
    · rw [h1] at k; cases k.2.2)
  have := Ite_ok f g h R (by rw [e]; exact hl)
  rw [e] at this; exact this
theorem Restrict_inv {v : Int} {x : Bool} (R : Rep w p M L) (hf : M.valid f = false ∨ ¬ (0 ≤ v ∧ v < M.n)) (hl : M.nodes.length ≤ big) : Calls Try.prog 67 #[ptr p, .int .i64 f, .int .i64 v, .bool x] w (Ret p L w M (.int .i64 (-1))) := by
  have e : M.restrictM f v x = (M, -1) := if_neg (fun k => by
    rcases hf with h1 | h1
    · rw [h1] at k; cases k.1
    · exact h1 k.2)
  have := Restrict_ok f v x R (by rw [e]; exact hl)
  rw [e] at this; exact this
theorem valid_m1 (M : Mgr) : M.valid (-1) = false := by unfold Mgr.valid; simp
theorem neg_inv {x : Int} (M : Mgr) (h : x < 0) : M.valid x = false := by unfold Mgr.valid; simp; omega

set_option maxRecDepth 100000 in
theorem complete_inv (R : Rep w p M L) (hf : M.valid f = false) {ao : Option Addr} {m cp : Nat} : Calls Try.prog 93 #[ptr p, .int .i64 f, .slice ao m cp] w fun e w' => e = .returned (.bool false) ∧ w = w' := by
  have VF := Lib.hid (valid_as f false R hf)
  clear R
  go_enter Try.func93, Try.ntmps93
  go_wp2_with fail
  refine VF.out.mono ?_
  rintro e w' ⟨rfl, rfl⟩
  go_wp2_with fail
  go_ret
  exact ⟨rfl, rfl⟩
set_option maxRecDepth 100000 in
theorem Count_inv (R : Rep w p M L) (hf : M.valid f = false) {ao : Option Addr} {m cp : Nat} : Calls Try.prog 48 #[ptr p, .int .i64 f, .slice ao m cp] w fun e w' => e = .returned (.tuple #[.int .u64 0, .int .u64 0, .int .i64 1]) ∧ w = w' := by
  have CM := Lib.hid (complete_inv R hf (ao := ao) (m := m) (cp := cp))
  clear R
  go_enter Try.func48, Try.ntmps48
  go_wp2_with fail
  refine CM.out.mono ?_
  rintro e w' ⟨rfl, rfl⟩
  go_wp2_with fail
  refine bodyPost_ret (v := .tuple #[.int .u64 0, .int .u64 0, .int .i64 1]) (by simp [results, Try.results48, go_sem]) rfl ⟨rfl, rfl⟩
set_option maxRecDepth 100000 in
theorem Least_inv (R : Rep w p M L) (hf : M.valid f = false) (hne : f ≠ 0) {ao : Option Addr} {m cp : Nat} : Calls Try.prog 49 #[ptr p, .int .i64 f, .slice ao m cp] w fun e w' => e = .returned (.tuple #[.slice none 0 0, .bool false]) ∧ w = w' := by
  have CM := Lib.hid (complete_inv R hf (ao := ao) (m := m) (cp := cp))
  have hfz : (f == 0) = false := by simpa using hne
  clear R
  go_enter Try.func49, Try.ntmps49
  go_wp2_with fail
  refine CM.out.mono ?_
  rintro e w' ⟨rfl, rfl⟩
  go_wp2_with fail
  refine bodyPost_ret (v := .tuple #[.slice none 0 0, .bool false]) (by simp [results, Try.results49, go_sem]) rfl ⟨rfl, rfl⟩
set_option maxRecDepth 100000 in
theorem AndEx_inv1 (R : Rep w p M L) (hf : M.valid f = false) {ao : Option Addr} {m cp : Nat} : Calls Try.prog 16 #[ptr p, .int .i64 f, .int .i64 g, .slice ao m cp] w fun e w' => e = .returned (.int .i64 (-1)) ∧ w = w' := by
  have VF := Lib.hid (valid_as f false R hf)
  clear R
  go_enter Try.func16, Try.ntmps16
  go_wp2_with fail
  refine VF.out.mono ?_
  rintro e w' ⟨rfl, rfl⟩
  go_wp2_with fail
  go_ret
  exact ⟨rfl, rfl⟩
set_option maxRecDepth 100000 in
theorem AndEx_inv2 (R : Rep w p M L) (hf : M.valid f = true) (hg : M.valid g = false) {ao : Option Addr} {m cp : Nat} : Calls Try.prog 16 #[ptr p, .int .i64 f, .int .i64 g, .slice ao m cp] w fun e w' => e = .returned (.int .i64 (-1)) ∧ w = w' := by
  have VF := Lib.hid (valid_as f true R hf)
  have VG := Lib.hid (valid_as g false R hg)
  clear R
  go_enter Try.func16, Try.ntmps16
  go_wp2_with fail
  refine VF.out.mono ?_
  rintro e w' ⟨rfl, rfl⟩
  go_wp2_with fail
  refine VG.out.mono ?_
  rintro e w' ⟨rfl, rfl⟩
  go_wp2_with fail
  go_ret
  exact ⟨rfl, rfl⟩
set_option maxRecDepth 100000 in
theorem Exists_inv (R : Rep w p M L) (hf : M.valid f = false) {ao : Option Addr} {m cp : Nat} : Calls Try.prog 25 #[ptr p, .int .i64 f, .slice ao m cp] w fun e w' => e = .returned (.int .i64 (-1)) ∧ w = w' := by
  have AE := Lib.hid (AndEx_inv1 (g := 1) R hf (ao := ao) (m := m) (cp := cp))
  clear R
  go_enter Try.func25, Try.ntmps25
  go_wp2_with fail
  refine AE.out.mono ?_
  rintro e w' ⟨rfl, rfl⟩
  go_wp2_with fail
  go_ret
  exact ⟨rfl, rfl⟩
set_option maxRecDepth 100000 in
theorem ForAll_inv (R : Rep w p M L) (hf : M.valid f = false) (hl : M.nodes.length ≤ big) {ao : Option Addr} {m cp : Nat} : Calls Try.prog 26 #[ptr p, .int .i64 f, .slice ao m cp] w (Ret p L w M (.int .i64 (-1))) := by
  have N1 := Lib.hid (Not_inv R hf hl)
  have S0 := Lib.hid (Sd.start R)
  clear R
  go_enter Try.func26, Try.ntmps26
  go_wp2_with fail
  refine N1.out.mono ?_
  intro e w1 h1
  obtain ⟨rfl, L1, s1⟩ := S0.out.step h1
  have S1 := Lib.hid s1
  clear h1 s1 S0 N1
  go_wp2_with fail
  refine (Exists_inv S1.out.rep (valid_m1 M)).mono ?_
  rintro e w' ⟨rfl, rfl⟩
  go_wp2_with fail
  refine (Not_inv S1.out.rep (valid_m1 M) hl).mono ?_
  intro e w2 h2
  obtain ⟨rfl, L2, s2⟩ := S1.out.step h2
  have FIN := Lib.hid (s2.ret (.int .i64 (-1)))
  clear h2 s2 S1
  go_wp2_with fail
  go_ret
  exact FIN.out
set_option maxRecDepth 100000 in
theorem Implies_inv1 (R : Rep w p M L) (hf : M.valid f = false) : Calls Try.prog 28 #[ptr p, .int .i64 f, .int .i64 g] w fun e w' => e = .returned (.bool false) ∧ w = w' := by
  have VF := Lib.hid (valid_as f false R hf)
  clear R
  go_enter Try.func28, Try.ntmps28
  go_wp2_with fail
  refine VF.out.mono ?_
  rintro e w' ⟨rfl, rfl⟩
  go_wp2_with fail
  go_ret
  exact ⟨rfl, rfl⟩
set_option maxRecDepth 100000 in
theorem Implies_inv2 (R : Rep w p M L) (hf : M.valid f = true) (hg : M.valid g = false) : Calls Try.prog 28 #[ptr p, .int .i64 f, .int .i64 g] w fun e w' => e = .returned (.bool false) ∧ w = w' := by
  have VF := Lib.hid (valid_as f true R hf)
  have VG := Lib.hid (valid_as g false R hg)
  clear R
  go_enter Try.func28, Try.ntmps28
  go_wp2_with fail
  refine VF.out.mono ?_
  rintro e w' ⟨rfl, rfl⟩
  go_wp2_with fail
  refine VG.out.mono ?_
  rintro e w' ⟨rfl, rfl⟩
  go_wp2_with fail
  go_ret
  exact ⟨rfl, rfl⟩
set_option maxRecDepth 100000 in
theorem Rename_inv (R : Rep w p M L) (hf : M.valid f = false) {ao bo : Option Addr} {m cp k cq : Nat} : Calls Try.prog 17 #[ptr p, .int .i64 f, .slice ao m cp, .slice bo k cq] w fun e w' => e = .returned (.int .i64 (-1)) ∧ w = w' := by
  have VF := Lib.hid (valid_as f false R hf)
  clear R
  go_enter Try.func17, Try.ntmps17
  go_wp2_with fail
  refine VF.out.mono ?_
  rintro e w' ⟨rfl, rfl⟩
  go_wp2_with fail
  go_ret
  exact ⟨rfl, rfl⟩
end
end Go.Proofs.Ytngbodmooddjbaa
