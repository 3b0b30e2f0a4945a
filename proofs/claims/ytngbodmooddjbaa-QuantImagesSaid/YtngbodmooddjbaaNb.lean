/-
  Walks: numbers of 128 bits of the package quant.
-/
import Derived.Test.YtngbodmooddjbaaQ
import Derived.Deep.QuietTactic
import Derived.BigQuiet
import Derived.Laws.BitsAllLaws
import Derived.Shelf.Lay
import Derived.Shelf.Spec.BitsCarry
import Derived.Ground.Names7Prog
namespace Go.Proofs.Ytngbodmooddjbaa
open Go.RowKit Go.Shelf

shelf_lay Lays7.n25 Nm7 25 at Try as Try.add64

/-- A number of 128 bits. -/
def numV (N : Nat) : Value := .agg #[.int .u64 ((N / 2 ^ 64 : Nat) : Int), .int .u64 ((N % 2 ^ 64 : Nat) : Int)]

theorem num_hi {N k : Nat} (h : 64 ≤ k) (hN : N * 2 ^ k < 2 ^ 128) : ((N % 2 ^ 64 : Nat) : Int) * 2 ^ (k - 64) % 18446744073709551616 = ((N * 2 ^ k / 2 ^ 64 : Nat) : Int) ∧ N * 2 ^ k % 2 ^ 64 = 0 := by
  have e : N * 2 ^ k = N * 2 ^ (k - 64) * 2 ^ 64 := by rw [Nat.mul_assoc, ← Nat.pow_add, Nat.sub_add_cancel h]
  have hp : 0 < 2 ^ (k - 64) := Nat.pow_pos (by omega)
  have h1 : N * 2 ^ (k - 64) < 2 ^ 64 := by
    rw [e] at hN
    have : (2 : Nat) ^ 128 = 2 ^ 64 * 2 ^ 64 := by decide
    rw [this] at hN
    exact Nat.lt_of_mul_lt_mul_right hN
  have h2 : N < 2 ^ 64 := Nat.lt_of_le_of_lt (Nat.le_mul_of_pos_right N hp) h1
  rw [e, Nat.mul_div_cancel _ (by decide), Nat.mul_mod_left, Nat.mod_eq_of_lt h2]
  refine ⟨?_, rfl⟩
  have e2 : ((N : Nat) : Int) * 2 ^ (k - 64) = ((N * 2 ^ (k - 64) : Nat) : Int) := by push_cast; rfl
  rw [e2]
  have : (2 : Nat) ^ 64 = 18446744073709551616 := by decide
  omega
theorem num_lo {N k : Nat} (h : k < 64) (hN : N * 2 ^ k < 2 ^ 128) :
    bits .or .u64 (((N / 2 ^ 64 : Nat) : Int) * 2 ^ k % 18446744073709551616) (((N % 2 ^ 64 : Nat) : Int) / 2 ^ (64 - k)) = ((N * 2 ^ k / 2 ^ 64 : Nat) : Int) ∧ ((N % 2 ^ 64 : Nat) : Int) * 2 ^ k % 18446744073709551616 = ((N * 2 ^ k % 2 ^ 64 : Nat) : Int) := by
  have p64 : (2 : Nat) ^ 64 = 18446744073709551616 := by decide
  have hp : 0 < 2 ^ k := Nat.pow_pos (by omega)
  have hp2 : 0 < 2 ^ (64 - k) := Nat.pow_pos (by omega)
  have hsplit : (2 : Nat) ^ 64 = 2 ^ (64 - k) * 2 ^ k := by rw [← Nat.pow_add, Nat.sub_add_cancel (by omega)]
  have eN := Nat.div_add_mod N (2 ^ 64)
  obtain ⟨hi, hhi⟩ : ∃ x, N / 2 ^ 64 = x := ⟨_, rfl⟩
  obtain ⟨lo, hlo⟩ : ∃ x, N % 2 ^ 64 = x := ⟨_, rfl⟩
  have hl : lo < 2 ^ 64 := by rw [← hlo]; exact Nat.mod_lt _ (by decide)
  rw [hhi, hlo] at eN
  rw [hhi, hlo]
  have eM : N * 2 ^ k = 2 ^ 64 * (hi * 2 ^ k) + lo * 2 ^ k := by rw [← eN, Nat.add_mul, Nat.mul_assoc]
  have eq1 : lo * 2 ^ k / 2 ^ 64 = lo / 2 ^ (64 - k) := by rw [hsplit]; exact Nat.mul_div_mul_right _ _ hp
  have eq2 : N * 2 ^ k / 2 ^ 64 = hi * 2 ^ k + lo / 2 ^ (64 - k) := by rw [eM, Nat.mul_add_div (by decide), eq1]
  have eq3 : N * 2 ^ k % 2 ^ 64 = lo * 2 ^ k % 2 ^ 64 := by rw [eM, Nat.mul_add_mod]
  have hq : lo / 2 ^ (64 - k) < 2 ^ k := by
    apply Nat.div_lt_of_lt_mul
    rw [← hsplit]; exact hl
  have hsum : hi * 2 ^ k + lo / 2 ^ (64 - k) < 2 ^ 64 := by
    rw [← eq2]
    apply Nat.div_lt_of_lt_mul
    have : (2 : Nat) ^ 128 = 2 ^ 64 * 2 ^ 64 := by decide
    rw [← this]; exact hN
  have c1 : ((hi : Nat) : Int) * 2 ^ k = ((hi * 2 ^ k : Nat) : Int) := by push_cast; rfl
  have c2 : ((lo : Nat) : Int) * 2 ^ k = ((lo * 2 ^ k : Nat) : Int) := by push_cast; rfl
  have c3 : ((lo : Nat) : Int) / 2 ^ (64 - k) = ((lo / 2 ^ (64 - k) : Nat) : Int) := by push_cast; rfl
  rw [c1, c2, c3]
  refine ⟨?_, ?_⟩
  · have e5 : ((hi * 2 ^ k : Nat) : Int) % 18446744073709551616 = ((hi * 2 ^ k : Nat) : Int) := by omega
    rw [e5, u64_or_nat _ _ (by omega) (by omega), eq2]
    congr 1
    have := Nat.shiftLeft_add_eq_or_of_lt hq hi
    rw [Nat.shiftLeft_eq] at this
    exact this.symm
  · rw [eq3, p64]; omega

set_option maxRecDepth 100000 in
set_option maxHeartbeats 1000000 in
theorem shift_ok (N k : Nat) (hk : k < 128) (hN : N * 2 ^ k < 2 ^ 128) (w : World) :
    Calls Try.prog 100 #[numV N, .int .i64 (k : Int)] w fun e w' => e = .returned (numV (N * 2 ^ k)) ∧ Kp No w w' := by
  unfold numV
  by_cases h64 : 64 ≤ k
  · obtain ⟨E1, E2⟩ := num_hi h64 hN
    rw [E2]
    have h64i : (64 : Int) ≤ (k : Int) := by omega
    have hkn : (0 : Int) ≤ (k : Int) - 64 := by omega
    generalize N / 2 ^ 64 = hi at *
    generalize N % 2 ^ 64 = lo at *
    generalize N * 2 ^ k / 2 ^ 64 = hi2 at *
    have W1 := Lib.hid (IntKind.wrap_u64 ((lo : Int) * 2 ^ (k - 64)) |>.trans E1)
    clear E1 E2 hN
    go_enter Try.func100, Try.ntmps100
    go_wp2_with fail
    rw [W1.out]
    refine bodyPost_ret (v := .agg #[.int .u64 (hi2 : Int), .int .u64 ((0 : Nat) : Int)]) (by simp [results, Try.results100, go_sem]) rfl ⟨rfl, (Kp.alloc _).trans_no (Kp.alloc _)⟩
  · obtain ⟨E1, E2⟩ := num_lo (by omega) hN
    have h64i : ¬ (64 : Int) ≤ (k : Int) := by omega
    have hkn : (0 : Int) ≤ 64 - (k : Int) := by omega
    have hk0 : (0 : Int) ≤ (k : Int) := by omega
    generalize N / 2 ^ 64 = hi at *
    generalize N % 2 ^ 64 = lo at *
    generalize N * 2 ^ k / 2 ^ 64 = hi2 at *
    generalize N * 2 ^ k % 2 ^ 64 = lo2 at *
    have W1 := Lib.hid (IntKind.wrap_u64 ((hi : Int) * 2 ^ k))
    have W2 := Lib.hid (IntKind.wrap_u64 ((lo : Int) * 2 ^ k) |>.trans E2)
    have W3 := Lib.hid E1
    clear E1 E2 hN
    go_enter Try.func100, Try.ntmps100
    go_upto_region 3 with fail
    go_region
    rw [W2.out, W1.out, W3.out]
    go_wp2_with fail
    refine bodyPost_ret (v := .agg #[.int .u64 (hi2 : Int), .int .u64 (lo2 : Int)]) (by simp [results, Try.results100, go_sem]) rfl ⟨rfl, ((Kp.alloc _).trans_no (Kp.alloc _)).trans_no Kp.drew⟩

theorem run_add (x y c s d : Nat) (hc : c ≤ 1) (hs : (x + y + c) % 18446744073709551616 = s) (hd : (x + y + c) / 18446744073709551616 = d) (w : World) :
    (callFunc 138 #[.int .u64 (x : Int), .int .u64 (y : Int), .int .u64 (c : Int)]).run Try.prog w = .ok (.value (.tuple #[.int .u64 (s : Int), .int .u64 (d : Int)])) w := by
  have h := Any7.bits_Add64 Try.add64 x y c hc w
  rw [hs, hd] at h
  exact h
set_option maxRecDepth 100000 in
set_option maxHeartbeats 1000000 in
theorem add_ok (N M : Nat) (h : N + M < 2 ^ 128) (w : World) :
    Calls Try.prog 121 #[numV N, numV M] w fun e w' => e = .returned (numV (N + M)) ∧ Kp No w w' := by
  unfold numV
  have p64 : (2 : Nat) ^ 64 = 18446744073709551616 := by decide
  have p128 : (2 : Nat) ^ 128 = 18446744073709551616 * 18446744073709551616 := by decide
  rw [p64]
  rw [p128] at h
  have A1 := run_add (N % 18446744073709551616) (M % 18446744073709551616) 0 ((N + M) % 18446744073709551616) ((N % 18446744073709551616 + M % 18446744073709551616) / 18446744073709551616) (by omega) (by omega) (by omega)
  have A2 := run_add (N / 18446744073709551616) (M / 18446744073709551616) ((N % 18446744073709551616 + M % 18446744073709551616) / 18446744073709551616) ((N + M) / 18446744073709551616) 0 (by omega) (by omega) (by omega)
  generalize N / 18446744073709551616 = h1 at *
  generalize M / 18446744073709551616 = h2 at *
  generalize (N % 18446744073709551616 + M % 18446744073709551616) / 18446744073709551616 = d at *
  generalize N % 18446744073709551616 = l1 at *
  generalize M % 18446744073709551616 = l2 at *
  generalize (N + M) / 18446744073709551616 = h3 at *
  generalize (N + M) % 18446744073709551616 = l3 at *
  clear h p64 p128
  simp only [Int.natCast_zero] at A1 A2
  go_enter Try.func121, Try.ntmps121
  go_wp2_with fail
  refine bodyPost_ret (v := .agg #[.int .u64 (h3 : Int), .int .u64 (l3 : Int)]) (by simp [results, Try.results121, go_sem]) rfl ⟨rfl, ((Kp.alloc _).trans_no (Kp.alloc _)).trans_no (Kp.alloc _)⟩

end Go.Proofs.Ytngbodmooddjbaa
