/-
  Walks: the functions of 'quant' at Refs that are not valid; the law QuantInvalid.
-/
import Derived.Test.YtohinonkfhkclaaQw
namespace Go.Proofs.Ytohinonkfhkclaa
open Go.RowKit

section
variable {p : Nat} {M : Mgr} {L : Lay} {w : World} {f g h : Int}
theorem Not_inv (R : Rep w p M L) (hf : M.valid f = false) (hl : M.nodes.length ≤ big) : Calls Try.prog 16 #[ptr p, .int .i64 f] w (Ret p L w M (.int .i64 (-1))) := by
  have e : M.notM f = (M, -1) := if_neg (fun h => by rw [hf] at h; cases h.1)
  have := Not_ok f R (by rw [e]; exact hl)
  rw [e] at this; exact this
theorem Ite_inv (R : Rep w p M L) (hf : M.valid f = false ∨ M.valid g = false ∨ M.valid h = false) (hl : M.nodes.length ≤ big) : Calls Try.prog 47 #[ptr p, .int .i64 f, .int .i64 g, .int .i64 h] w (Ret p L w M (.int .i64 (-1))) := by
  have e : M.iteM f g h = (M, -1) := if_neg (fun k => by
    rcases hf with h1 | h1 | h1
    · rw [h1] at k; cases k.1
    · rw [h1] at k; cases k.2.1
    · rw [h1] at k; cases k.2.2)
  have := Ite_ok f g h R (by rw [e]; exact hl)
  rw [e] at this; exact this
theorem Restrict_inv {v : Int} {x : Bool} (R : Rep w p M L) (hf : M.valid f = false ∨ ¬ (0 ≤ v ∧ v < M.n)) (hl : M.nodes.length ≤ big) : Calls Try.prog 43 #[ptr p, .int .i64 f, .int .i64 v, .bool x] w (Ret p L w M (.int .i64 (-1))) := by
  have e : M.restrictM f v x = (M, -1) := if_neg (fun k => by
    rcases hf with h1 | h1
    · rw [h1] at k; cases k.1
    · exact h1 k.2)
  have := Restrict_ok f v x R (by rw [e]; exact hl)
  rw [e] at this; exact this
theorem valid_m1 (M : Mgr) : M.valid (-1) = false := by unfold Mgr.valid; simp
theorem neg_inv {x : Int} (M : Mgr) (h : x < 0) : M.valid x = false := by unfold Mgr.valid; simp; omega

set_option maxRecDepth 100000 in
theorem complete_inv (R : Rep w p M L) (hf : M.valid f = false) {ao : Option Addr} {m cp : Nat} : Calls Try.prog 48 #[ptr p, .int .i64 f, .slice ao m cp] w fun e w' => e = .returned (.bool false) ∧ w = w' := by
  have VF := Lib.hid (valid_as f false R hf)
  clear R
  go_enter Try.func48, Try.ntmps48
  go_wp2_with fail
  refine VF.out.mono ?_
  rintro e w' ⟨rfl, rfl⟩
  go_wp2_with fail
  go_ret
  exact ⟨rfl, rfl⟩
set_option maxRecDepth 100000 in
theorem Count_inv (R : Rep w p M L) (hf : M.valid f = false) {ao : Option Addr} {m cp : Nat} : Calls Try.prog 18 #[ptr p, .int .i64 f, .slice ao m cp] w fun e w' => e = .returned (.tuple #[.int .u64 0, .int .u64 0, .int .i64 1]) ∧ w = w' := by
  have CM := Lib.hid (complete_inv R hf (ao := ao) (m := m) (cp := cp))
  clear R
  go_enter Try.func18, Try.ntmps18
  go_wp2_with fail
  refine CM.out.mono ?_
  rintro e w' ⟨rfl, rfl⟩
  go_wp2_with fail
  refine bodyPost_ret (v := .tuple #[.int .u64 0, .int .u64 0, .int .i64 1]) (by simp [results, Try.results18, go_sem]) rfl ⟨rfl, rfl⟩
set_option maxRecDepth 100000 in
theorem Least_inv (R : Rep w p M L) (hf : M.valid f = false) (hne : f ≠ 0) {ao : Option Addr} {m cp : Nat} : Calls Try.prog 23 #[ptr p, .int .i64 f, .slice ao m cp] w fun e w' => e = .returned (.tuple #[.slice none 0 0, .bool false]) ∧ w = w' := by
  have CM := Lib.hid (complete_inv R hf (ao := ao) (m := m) (cp := cp))
  have hfz : (f == 0) = false := by simpa using hne
  clear R
  go_enter Try.func23, Try.ntmps23
  go_wp2_with fail
  refine CM.out.mono ?_
  rintro e w' ⟨rfl, rfl⟩
  go_wp2_with fail
  refine bodyPost_ret (v := .tuple #[.slice none 0 0, .bool false]) (by simp [results, Try.results23, go_sem]) rfl ⟨rfl, rfl⟩
set_option maxRecDepth 100000 in
theorem AndEx_inv1 (R : Rep w p M L) (hf : M.valid f = false) {ao : Option Addr} {m cp : Nat} : Calls Try.prog 21 #[ptr p, .int .i64 f, .int .i64 g, .slice ao m cp] w fun e w' => e = .returned (.int .i64 (-1)) ∧ w = w' := by
  have VF := Lib.hid (valid_as f false R hf)
  clear R
  go_enter Try.func21, Try.ntmps21
  go_wp2_with fail
  refine VF.out.mono ?_
  rintro e w' ⟨rfl, rfl⟩
  go_wp2_with fail
  go_ret
  exact ⟨rfl, rfl⟩
set_option maxRecDepth 100000 in
theorem AndEx_inv2 (R : Rep w p M L) (hf : M.valid f = true) (hg : M.valid g = false) {ao : Option Addr} {m cp : Nat} : Calls Try.prog 21 #[ptr p, .int .i64 f, .int .i64 g, .slice ao m cp] w fun e w' => e = .returned (.int .i64 (-1)) ∧ w = w' := by
  have VF := Lib.hid (valid_as f true R hf)
  have VG := Lib.hid (valid_as g false R hg)
  clear R
  go_enter Try.func21, Try.ntmps21
  go_wp2_with fail
  refine VF.out.mono ?_
  rintro e w' ⟨rfl, rfl⟩
  go_wp2_with fail
  refine VG.out.mono ?_
  rintro e w' ⟨rfl, rfl⟩
  go_wp2_with fail
  go_ret
  exact ⟨rfl, rfl⟩
set_option maxRecDepth 100000 in
theorem Exists_inv (R : Rep w p M L) (hf : M.valid f = false) {ao : Option Addr} {m cp : Nat} : Calls Try.prog 24 #[ptr p, .int .i64 f, .slice ao m cp] w fun e w' => e = .returned (.int .i64 (-1)) ∧ w = w' := by
  have AE := Lib.hid (AndEx_inv1 (g := 1) R hf (ao := ao) (m := m) (cp := cp))
  clear R
  go_enter Try.func24, Try.ntmps24
  go_wp2_with fail
  refine AE.out.mono ?_
  rintro e w' ⟨rfl, rfl⟩
  go_wp2_with fail
  go_ret
  exact ⟨rfl, rfl⟩
set_option maxRecDepth 100000 in
theorem ForAll_inv (R : Rep w p M L) (hf : M.valid f = false) (hl : M.nodes.length ≤ big) {ao : Option Addr} {m cp : Nat} : Calls Try.prog 25 #[ptr p, .int .i64 f, .slice ao m cp] w (Ret p L w M (.int .i64 (-1))) := by
  have N1 := Lib.hid (Not_inv R hf hl)
  have S0 := Lib.hid (Sd.start R)
  clear R
  go_enter Try.func25, Try.ntmps25
  go_wp2_with fail
  refine N1.out.mono ?_
  intro e w1 h1
  obtain ⟨rfl, L1, s1⟩ := S0.out.step h1
  have S1 := Lib.hid s1
  clear h1 s1 S0 N1
  go_wp2_with fail
  refine (Exists_inv S1.out.rep (valid_m1 M)).mono ?_
  rintro e w' ⟨rfl, rfl⟩
  go_wp2_with fail
  refine (Not_inv S1.out.rep (valid_m1 M) hl).mono ?_
  intro e w2 h2
  obtain ⟨rfl, L2, s2⟩ := S1.out.step h2
  have FIN := Lib.hid (s2.ret (.int .i64 (-1)))
  clear h2 s2 S1
  go_wp2_with fail
  go_ret
  exact FIN.out
set_option maxRecDepth 100000 in
theorem Implies_inv1 (R : Rep w p M L) (hf : M.valid f = false) : Calls Try.prog 26 #[ptr p, .int .i64 f, .int .i64 g] w fun e w' => e = .returned (.bool false) ∧ w = w' := by
  have VF := Lib.hid (valid_as f false R hf)
  clear R
  go_enter Try.func26, Try.ntmps26
  go_wp2_with fail
  refine VF.out.mono ?_
  rintro e w' ⟨rfl, rfl⟩
  go_wp2_with fail
  go_ret
  exact ⟨rfl, rfl⟩
set_option maxRecDepth 100000 in
theorem Implies_inv2 (R : Rep w p M L) (hf : M.valid f = true) (hg : M.valid g = false) : Calls Try.prog 26 #[ptr p, .int .i64 f, .int .i64 g] w fun e w' => e = .returned (.bool false) ∧ w = w' := by
  have VF := Lib.hid (valid_as f true R hf)
  have VG := Lib.hid (valid_as g false R hg)
  clear R
  go_enter Try.func26, Try.ntmps26
  go_wp2_with fail
  refine VF.out.mono ?_
  rintro e w' ⟨rfl, rfl⟩
  go_wp2_with fail
  refine VG.out.mono ?_
  rintro e w' ⟨rfl, rfl⟩
  go_wp2_with fail
  go_ret
  exact ⟨rfl, rfl⟩
set_option maxRecDepth 100000 in
theorem Rename_inv (R : Rep w p M L) (hf : M.valid f = false) {ao bo : Option Addr} {m cp k cq : Nat} : Calls Try.prog 22 #[ptr p, .int .i64 f, .slice ao m cp, .slice bo k cq] w fun e w' => e = .returned (.int .i64 (-1)) ∧ w = w' := by
  have VF := Lib.hid (valid_as f false R hf)
  clear R
  go_enter Try.func22, Try.ntmps22
  go_wp2_with fail
  refine VF.out.mono ?_
  rintro e w' ⟨rfl, rfl⟩
  go_wp2_with fail
  go_ret
  exact ⟨rfl, rfl⟩
set_option maxRecDepth 100000 in
theorem Compose_inv1 {v : Int} (R : Rep w p M L) (hf : M.valid f = false ∨ ¬ (0 ≤ v ∧ v < M.n)) (hl : M.nodes.length ≤ big) : Calls Try.prog 27 #[ptr p, .int .i64 f, .int .i64 v, .int .i64 g] w (Ret p L w M (.int .i64 (-1))) := by
  have N1 := Lib.hid (Restrict_inv (x := true) R hf hl)
  have S0 := Lib.hid (Sd.start R)
  clear R
  go_enter Try.func27, Try.ntmps27
  go_wp2_with fail
  refine N1.out.mono ?_
  intro e w1 h1
  obtain ⟨rfl, L1, s1⟩ := S0.out.step h1
  have S1 := Lib.hid s1
  clear h1 s1 S0 N1
  go_wp2_with fail
  refine (Restrict_inv (x := false) S1.out.rep hf hl).mono ?_
  intro e w2 h2
  obtain ⟨rfl, L2, s2⟩ := S1.out.step h2
  have S2 := Lib.hid s2
  clear h2 s2 S1
  go_wp2_with fail
  refine (Ite_inv S2.out.rep (.inr (.inl (valid_m1 M))) hl).mono ?_
  intro e w3 h3
  obtain ⟨rfl, L3, s3⟩ := S2.out.step h3
  have FIN := Lib.hid (s3.ret (.int .i64 (-1)))
  clear h3 s3 S2
  go_wp2_with fail
  go_ret
  exact FIN.out
end
set_option maxRecDepth 100000 in
theorem Compose_inv2 {p n c : Nat} {M : Mgr} {L : Lay} {w : World} {B : List (Int × Bfn)} {f g : Int} {F : Bfn} (hn : n ≤ 6) (R : Rep w p M L) (b : Qk n c M B) (hc : c ≤ 800000000000) (hf : (f, F) ∈ B) {v : Nat} (hv : v < n) (hg : g < 0) :
    Calls Try.prog 27 #[ptr p, .int .i64 f, .int .i64 (v : Int), .int .i64 g] w fun e w' => ∃ M', Ret p L w M' (.int .i64 (-1)) e w' ∧ Qk n (c + 2 * 16777300) M' B := by
  have N1 := Lib.hid (RestrictS hn R b (by omega) hf hv true)
  have S0 := Lib.hid (Sd.start R)
  have MF := Lib.hid hf
  clear R b hf
  go_enter Try.func27, Try.ntmps27
  go_wp2_with fail
  refine N1.out.mono ?_
  rintro e w1 ⟨r1, M1, h1, q1, _⟩
  obtain ⟨rfl, L1, s1⟩ := S0.out.step h1
  have S1 := Lib.hid s1
  have Q1 := Lib.hid (q1.sub (B' := B) (fun _ h => .tail _ h))
  clear h1 s1 S0 N1 q1
  go_wp2_with fail
  refine (RestrictS hn S1.out.rep Q1.out (by omega) MF.out hv false).mono ?_
  rintro e w2 ⟨r2, M2, h2, q2, _⟩
  obtain ⟨rfl, L2, s2⟩ := S1.out.step h2
  have S2 := Lib.hid s2
  have Q2 := Lib.hid (q2.sub (B' := B) (fun _ h => .tail _ h))
  clear h2 s2 q2 S1 Q1
  go_wp2_with fail
  refine (Ite_inv S2.out.rep (.inl (neg_inv M2 hg)) (by have := Q2.out.cost; unfold big; omega)).mono ?_
  intro e w3 h3
  obtain ⟨rfl, L3, s3⟩ := S2.out.step h3
  have FIN : Hid (∃ M', Ret p L w M' (.int .i64 (-1)) (.returned (.int .i64 (-1))) w3 ∧ Qk n (c + 2 * 16777300) M' B) := Lib.hid ⟨M2, s3.ret _, Q2.out.mono (by omega)⟩
  clear h3 s3 S2
  go_wp2_with fail
  go_ret
  exact FIN.out

set_option maxRecDepth 1000000 in
set_option maxHeartbeats 8000000 in
theorem QuantInvalid_walk (bl v : Int) (hb : 0 ≤ bl ∧ bl < 4294967296) (w : World) :
    Calls Try.prog 5 #[.int .u32 bl, .int .i64 v] w fun e w' => e = .returned (.bool true) ∧ Kp No w w' := by
  have AW := Lib.hid (qawake_ok w)
  have hb0 := hb.1
  have hb1 := hb.2
  have PICK := Lib.hid (fun (y : World) => Pick_ok v 4 y (by omega) (by omega))
  have hk4 := pick_lt v (n := 4) (by omega)
  generalize pick v 4 = k at *
  go_enter Try.func5, Try.ntmps5
  go_wp2_with fail
  refine AW.out.mono ?_
  rintro e w0 ⟨rfl, k0⟩
  have K0 := Lib.hid k0
  clear k0 AW
  have HN := Lib.hid (New_ok 4 w0)
  rw [show nvars 4 = 4 from rfl] at HN
  go_wp2_with fail
  refine HN.out.mono ?_
  rintro e w1 ⟨p, L1, rfl, R1, k1, o1⟩
  have s1 := Lib.hid (show Own w0 p w1 (Mgr.new 4) L1 from ⟨R1, k1, o1⟩)
  have b1 := Lib.hid (Qk.new 4)
  clear R1 k1 o1 HN
  go_wp2_with fail
  refine (VarS s1.out.rep b1.out (by omega) (v := 1) (by omega)).mono ?_
  rintro e w2 ⟨f, M2, h2, q2, hf0⟩
  obtain ⟨rfl, L2, t2⟩ := s1.out.step h2
  have s2 := Lib.hid t2
  have b2 := Lib.hid q2
  have big2 : Hid (∀ (m : Mgr) (c : Nat) (B : List (Int × Bfn)), Qk 4 c m B → c ≤ 900000000000 → m.nodes.length ≤ big) := Lib.hid (fun m c B q hc => by have := q.cost; unfold big; omega)
  have VF2 := Lib.hid (q2.at (.head _)).1
  clear h2 q2 t2 s1 b1
  go_wp2_with fail
  refine (PICK.out _).mono ?_
  rintro e w' ⟨rfl, rfl⟩
  have s3 := Lib.hid ((s2.out.no (Kp.alloc (.cells #[.int .i64 (k : Int)] 3))).no (Kp.alloc (.cells #[.int .i64 0, .int .i64 1, .int .i64 2, .int .i64 3] 3)))
  go_wp2_with fail
  refine (Count_inv s3.out.rep (neg_inv _ (by omega))).mono ?_
  rintro e w' ⟨rfl, rfl⟩
  have s4 := Lib.hid (s3.out.no (Kp.alloc (.cells #[.int .i64 0, .int .i64 1, .int .i64 2, .int .i64 3] 3)))
  go_wp2_with fail
  refine (Least_inv s4.out.rep (neg_inv _ (by omega)) (by omega)).mono ?_
  rintro e w' ⟨rfl, rfl⟩
  clear s3 s2
  go_wp2_with fail
  refine (Exists_inv s4.out.rep (neg_inv _ (by omega))).mono ?_
  rintro e w' ⟨rfl, rfl⟩
  go_wp2_with fail
  refine (ForAll_inv s4.out.rep (neg_inv _ (by omega)) (big2.out _ _ _ b2.out (by omega))).mono ?_
  intro e w5 h5
  obtain ⟨rfl, L5, t5⟩ := s4.out.step h5
  have s5 := Lib.hid t5
  clear h5 t5 s4
  go_wp2_with fail
  refine (AndEx_inv1 s5.out.rep (neg_inv _ (by omega))).mono ?_
  rintro e w' ⟨rfl, rfl⟩
  go_wp2_with fail
  refine (AndEx_inv2 s5.out.rep VF2.out (neg_inv _ (by omega))).mono ?_
  rintro e w' ⟨rfl, rfl⟩
  go_wp2_with fail
  refine (Implies_inv1 s5.out.rep (neg_inv _ (by omega))).mono ?_
  rintro e w' ⟨rfl, rfl⟩
  go_wp2_with fail
  refine (Implies_inv2 s5.out.rep VF2.out (neg_inv _ (by omega))).mono ?_
  rintro e w' ⟨rfl, rfl⟩
  go_wp2_with fail
  refine (Rename_inv s5.out.rep (neg_inv _ (by omega))).mono ?_
  rintro e w' ⟨rfl, rfl⟩
  go_wp2_with fail
  refine (Compose_inv1 s5.out.rep (.inl (neg_inv _ (by omega))) (big2.out _ _ _ b2.out (by omega))).mono ?_
  intro e w6 h6
  obtain ⟨rfl, L6, t6⟩ := s5.out.step h6
  have s6 := Lib.hid t6
  clear h6 t6 s5
  go_wp2_with fail
  refine (Compose_inv2 (by omega) s6.out.rep b2.out (by omega) (.head _) (v := 0) (by omega) (by omega)).mono ?_
  rintro e w7 ⟨M7, h7, q7⟩
  obtain ⟨rfl, L7, t7⟩ := s6.out.step h7
  have KF := Lib.hid (K0.out.trans_no t7.kp)
  clear h7 t7 q7 s6
  go_wp2_with fail
  go_ret
  exact ⟨by simp, KF.out⟩

end Go.Proofs.Ytohinonkfhkclaa
