/-
  Walks: 'clamp', 'Mask', 'Valid', 'Contains', 'Last' of the package addr.
-/
import Derived.Test.YtgglkldoclejaaaDoorHwm
import Derived.Deep.QuietTactic
import Derived.BigQuiet
import Derived.Deep.RegionHeld3
namespace Go.Proofs.YtgglkldoclejaaaDoor
open Go.RowKit

def clI (n : Int) : Nat := if n < 0 then 0 else if 32 < n then 32 else n.toNat
theorem clI_le (n : Int) : clI n ≤ 32 := by unfold clI; split; omega; split <;> omega
theorem clI_in {n : Int} (h0 : 0 ≤ n) (h1 : n ≤ 32) : (clI n : Int) = n := by unfold clI; rw [if_neg (by omega), if_neg (by omega)]; omega

set_option maxRecDepth 100000 in
theorem clamp_ok (n : Int) (w : World) : Calls Tryd.prog 81 #[.int .i64 n] w fun e w' => e = .returned (.int .i64 (clI n : Int)) ∧ w = w' := by
  by_cases h0 : n < 0
  · have e : (clI n : Int) = 0 := by unfold clI; rw [if_pos h0]; rfl
    rw [e]
    have h1 : ¬ (32 : Int) < n := by omega
    go_enter Tryd.func81, Tryd.ntmps81
    go_wp2_with fail
    go_ret
    exact ⟨rfl, rfl⟩
  · by_cases h1 : (32 : Int) < n
    · have e : (clI n : Int) = 32 := by unfold clI; rw [if_neg h0, if_pos h1]; rfl
      rw [e]
      go_enter Tryd.func81, Tryd.ntmps81
      go_wp2_with fail
      go_ret
      exact ⟨rfl, rfl⟩
    · rw [clI_in (by omega) (by omega)]
      have h2 : (0 : Int) ≤ n := by omega
      by_cases h3 : n = 0
      · subst h3
        go_enter Tryd.func81, Tryd.ntmps81
        go_wp2_with fail
        go_ret
        exact ⟨rfl, rfl⟩
      · have h4 : (0 : Int) < n := by omega
        go_enter Tryd.func81, Tryd.ntmps81
        go_wp2_with fail
        go_ret
        exact ⟨rfl, rfl⟩

/-- The number whose first c bits are 1. -/
def mkN (c : Nat) : Nat := (2 ^ c - 1) * 2 ^ (32 - c)
theorem mkN_bit {c i : Nat} (hc : c ≤ 32) (hi : i < 32) : (mkN c).testBit i = decide (32 - c ≤ i) := by
  unfold mkN
  rw [Nat.testBit_mul_two_pow, Nat.testBit_two_pow_sub_one, Bool.eq_iff_iff]
  simp
  omega
theorem mkN_val {c : Nat} (hc : c ≤ 32) : mkN c + 2 ^ (32 - c) = 4294967296 := by
  unfold mkN
  have h : (2 : Nat) ^ c * 2 ^ (32 - c) = 4294967296 := by rw [← Nat.pow_add, show c + (32 - c) = 32 by omega]
  have hp : 0 < 2 ^ c := Nat.pow_pos (by omega)
  rw [Nat.sub_mul, h, Nat.one_mul]
  have : 2 ^ (32 - c) ≤ 4294967296 := by rw [← h]; exact Nat.le_mul_of_pos_left _ hp
  omega
theorem mkN_lt {c : Nat} (hc : c ≤ 32) : mkN c < 4294967296 := by
  have := mkN_val hc
  have : 0 < 2 ^ (32 - c) := Nat.pow_pos (by omega)
  omega

set_option maxRecDepth 100000 in
theorem Mask_ok (n : Int) (w : World) : Calls Tryd.prog 67 #[.int .i64 n] w fun e w' => e = .returned (.int .u32 (mkN (clI n) : Int)) ∧ w = w' := by
  have C := Lib.hid (clamp_ok n w)
  have hc := clI_le n
  have hv : ((4294967295 : Int) * 2 ^ (32 - clI n)) % 4294967296 = (mkN (clI n) : Int) := by
    have h1 := mkN_val hc
    have h2 : (0 : Nat) < 2 ^ (32 - clI n) := Nat.pow_pos (by omega)
    have h3 : ((2 : Int) ^ (32 - clI n)) = ((2 ^ (32 - clI n) : Nat) : Int) := by simp
    rw [h3]
    generalize 2 ^ (32 - clI n) = z at *
    have : (4294967295 : Int) * (z : Int) = (mkN (clI n) : Int) + 4294967296 * ((z : Int) - 1) := by omega
    rw [this, Int.add_mul_emod_self_left]
    have := mkN_lt hc
    omega
  have HV := Lib.hid hv
  clear hv
  generalize mkN (clI n) = m at *
  generalize clI n = cl at *
  go_enter Tryd.func67, Tryd.ntmps67
  go_wp2_with fail
  refine C.out.mono ?_
  rintro e w' ⟨rfl, rfl⟩
  go_wp2_with fail
  go_ret
  exact ⟨by rw [HV.out]; rfl, rfl⟩

def pvB (ad : Nat) (ln : Int) : Bool := decide (0 ≤ ln ∧ ln ≤ 32) && ((andn ad (mkN (clI ln)) : Int) == 0)
set_option maxRecDepth 100000 in
theorem Valid_ok (ad : Nat) (ln : Int) (w : World) : Calls Tryd.prog 38 #[.agg #[.int .u32 (ad : Int), .int .i64 ln]] w fun e w' => e = .returned (.bool (pvB ad ln)) ∧ Kp No w w' := by
  by_cases h0 : 0 ≤ ln
  · by_cases h1 : ln ≤ 32
    · have e : pvB ad ln = ((andn ad (mkN (clI ln)) : Int) == 0) := by unfold pvB; rw [decide_eq_true (And.intro h0 h1), Bool.true_and]
      rw [e]
      have MK := Lib.hid (fun (y : World) => (Mask_ok ln y).mono (fun _ _ h => And.intro h.1 h.2.symm))
      have hb := bits_andn ad (mkN (clI ln))
      generalize mkN (clI ln) = m at *
      generalize andn ad m = an at *
      clear e
      have KA := Lib.hid (Kp.alloc (w := w) (.cells #[.int .u32 (ad : Int), .int .i64 ln] 57))
      have c0 : (w.alloc (.cells #[.int .u32 (ad : Int), .int .i64 ln] 57)).cell? ⟨w.heap.size, 0, none⟩ = some (.int .u32 (ad : Int)) := by rw [cell_of_row _ _ _ _ _ _ (heap_alloc_new _ _)]; rfl
      have c1 : (w.alloc (.cells #[.int .u32 (ad : Int), .int .i64 ln] 57)).cell? ⟨w.heap.size, 1, none⟩ = some (.int .i64 ln) := by rw [cell_of_row _ _ _ _ _ _ (heap_alloc_new _ _)]; rfl
      go_enter Tryd.func38, Tryd.ntmps38
      go_upto_region 1 with (fail)
      generalize w.alloc (.cells #[.int .u32 (ad : Int), .int .i64 ln] 57) = wA at *
      go_quiet ((go_at_call 67; exact Calls.quiet_of_same (MK.out _)))
      go_wp2_with fail
      go_ret
      exact ⟨rfl, KA.out.trans_no (Kp.drewN _)⟩
    · have e : pvB ad ln = false := by unfold pvB; rw [decide_eq_false (fun h => h1 h.2), Bool.false_and]
      rw [e]
      have h1' : decide (ln ≤ 32) = false := decide_eq_false h1
      clear e
      have KA := Lib.hid (Kp.alloc (w := w) (.cells #[.int .u32 (ad : Int), .int .i64 ln] 57))
      have c0 : (w.alloc (.cells #[.int .u32 (ad : Int), .int .i64 ln] 57)).cell? ⟨w.heap.size, 0, none⟩ = some (.int .u32 (ad : Int)) := by rw [cell_of_row _ _ _ _ _ _ (heap_alloc_new _ _)]; rfl
      have c1 : (w.alloc (.cells #[.int .u32 (ad : Int), .int .i64 ln] 57)).cell? ⟨w.heap.size, 1, none⟩ = some (.int .i64 ln) := by rw [cell_of_row _ _ _ _ _ _ (heap_alloc_new _ _)]; rfl
      go_enter Tryd.func38, Tryd.ntmps38
      go_upto_region 1 with (fail)
      generalize w.alloc (.cells #[.int .u32 (ad : Int), .int .i64 ln] 57) = wA at *
      go_quiet (fail)
      go_wp2_with fail
      go_ret
      exact ⟨rfl, KA.out.trans_no (Kp.drewN _)⟩
  · have e : pvB ad ln = false := by unfold pvB; rw [decide_eq_false (fun h => h0 h.1), Bool.false_and]
    rw [e]
    have h0' : decide (0 ≤ ln) = false := decide_eq_false h0
    clear e
    have KA := Lib.hid (Kp.alloc (w := w) (.cells #[.int .u32 (ad : Int), .int .i64 ln] 57))
    have c0 : (w.alloc (.cells #[.int .u32 (ad : Int), .int .i64 ln] 57)).cell? ⟨w.heap.size, 0, none⟩ = some (.int .u32 (ad : Int)) := by rw [cell_of_row _ _ _ _ _ _ (heap_alloc_new _ _)]; rfl
    have c1 : (w.alloc (.cells #[.int .u32 (ad : Int), .int .i64 ln] 57)).cell? ⟨w.heap.size, 1, none⟩ = some (.int .i64 ln) := by rw [cell_of_row _ _ _ _ _ _ (heap_alloc_new _ _)]; rfl
    go_enter Tryd.func38, Tryd.ntmps38
    go_upto_region 1 with (fail)
    generalize w.alloc (.cells #[.int .u32 (ad : Int), .int .i64 ln] 57) = wA at *
    go_quiet (fail)
    go_wp2_with fail
    go_ret
    exact ⟨rfl, KA.out.trans_no (Kp.drewN _)⟩

def ctB (ad : Nat) (ln : Int) (a : Nat) : Bool := (((a &&& mkN (clI ln) : Nat) : Int) == (ad : Int))
set_option maxRecDepth 100000 in
theorem Contains_ok (ad : Nat) (ln : Int) (a : Nat) (ha : a < 4294967296) (w : World) : Calls Tryd.prog 39 #[.agg #[.int .u32 (ad : Int), .int .i64 ln], .int .u32 (a : Int)] w fun e w' => e = .returned (.bool (ctB ad ln a)) ∧ Kp No w w' := by
  have MK := Lib.hid (fun (y : World) => (Mask_ok ln y).mono (fun _ _ h => And.intro h.1 h.2.symm))
  have hb : bits BinOp.and IntKind.u32 (a : Int) (mkN (clI ln) : Int) = ((a &&& mkN (clI ln) : Nat) : Int) := (bits_nat .u32 32 (by decide) (fun n a b => by rw [IntKind.wrap_u32]; omega) a _ ha (mkN_lt (clI_le ln))).1
  unfold ctB
  generalize mkN (clI ln) = m at *
  generalize a &&& m = am at *
  have KA := Lib.hid (Kp.alloc (w := w) (.cells #[.int .u32 (ad : Int), .int .i64 ln] 57))
  have c0 : (w.alloc (.cells #[.int .u32 (ad : Int), .int .i64 ln] 57)).cell? ⟨w.heap.size, 0, none⟩ = some (.int .u32 (ad : Int)) := by rw [cell_of_row _ _ _ _ _ _ (heap_alloc_new _ _)]; rfl
  have c1 : (w.alloc (.cells #[.int .u32 (ad : Int), .int .i64 ln] 57)).cell? ⟨w.heap.size, 1, none⟩ = some (.int .i64 ln) := by rw [cell_of_row _ _ _ _ _ _ (heap_alloc_new _ _)]; rfl
  go_enter Tryd.func39, Tryd.ntmps39
  go_upto_region 1 with (fail)
  generalize w.alloc (.cells #[.int .u32 (ad : Int), .int .i64 ln] 57) = wA at *
  go_quiet ((go_at_call 67; exact Calls.quiet_of_same (MK.out _)))
  go_wp2_with fail
  go_ret
  exact ⟨rfl, KA.out.trans_no (Kp.drewN _)⟩

/-- '^m'. -/
def ntN (m : Nat) : Nat := (BitVec.allOnes 32 ^^^ BitVec.ofNat 32 m).toNat
theorem ntN_lt (m : Nat) : ntN m < 4294967296 := (BitVec.allOnes 32 ^^^ BitVec.ofNat 32 m).isLt
theorem ntN_bit (m : Nat) {i : Nat} (hi : i < 32) : (ntN m).testBit i = !m.testBit i := by
  unfold ntN
  rw [BitVec.testBit_toNat, BitVec.getLsbD_xor, BitVec.getLsbD_allOnes, BitVec.getLsbD_ofNat]
  simp [hi]
theorem bits_not (m : Nat) : bits BinOp.xor IntKind.u32 IntKind.u32.max (m : Int) = (ntN m : Int) := by
  have hm : IntKind.u32.max = ((4294967295 : Nat) : Int) := rfl
  rw [hm]
  unfold bits ntN
  simp only [BitVec.ofInt_natCast]
  rw [IntKind.wrap_u32]
  have := ntN_lt m
  unfold ntN at this
  have e : BitVec.ofNat 32 4294967295 = BitVec.allOnes 32 := by decide
  show ((BitVec.ofNat 32 4294967295 ^^^ BitVec.ofNat 32 m).toNat : Int) % 4294967296 = _
  rw [e]
  omega
def lsN (ad : Nat) (ln : Int) : Nat := ad ||| ntN (mkN (clI ln))
theorem lsN_lt {ad : Nat} (had : ad < 4294967296) (ln : Int) : lsN ad ln < 4294967296 := Nat.or_lt_two_pow (n := 32) had (ntN_lt _)
set_option maxRecDepth 100000 in
theorem Last_ok (ad : Nat) (ln : Int) (had : ad < 4294967296) (w : World) : Calls Tryd.prog 40 #[.agg #[.int .u32 (ad : Int), .int .i64 ln]] w fun e w' => e = .returned (.int .u32 (lsN ad ln : Int)) ∧ Kp No w w' := by
  have MK := Lib.hid (fun (y : World) => (Mask_ok ln y).mono (fun _ _ h => And.intro h.1 h.2.symm))
  have hb := bits_not (mkN (clI ln))
  have ho : bits BinOp.or IntKind.u32 (ad : Int) (ntN (mkN (clI ln)) : Int) = (lsN ad ln : Int) := (bits_nat .u32 32 (by decide) (fun n a b => by rw [IntKind.wrap_u32]; omega) ad _ had (ntN_lt _)).2
  generalize mkN (clI ln) = m at *
  generalize ntN m = nm at *
  generalize lsN ad ln = r at *
  have KA := Lib.hid (Kp.alloc (w := w) (.cells #[.int .u32 (ad : Int), .int .i64 ln] 57))
  have c0 : (w.alloc (.cells #[.int .u32 (ad : Int), .int .i64 ln] 57)).cell? ⟨w.heap.size, 0, none⟩ = some (.int .u32 (ad : Int)) := by rw [cell_of_row _ _ _ _ _ _ (heap_alloc_new _ _)]; rfl
  have c1 : (w.alloc (.cells #[.int .u32 (ad : Int), .int .i64 ln] 57)).cell? ⟨w.heap.size, 1, none⟩ = some (.int .i64 ln) := by rw [cell_of_row _ _ _ _ _ _ (heap_alloc_new _ _)]; rfl
  go_enter Tryd.func40, Tryd.ntmps40
  go_upto_region 1 with (fail)
  generalize w.alloc (.cells #[.int .u32 (ad : Int), .int .i64 ln] 57) = wA at *
  go_quiet ((go_at_call 67; exact Calls.quiet_of_same (MK.out _)))
  go_wp2_with fail
  go_ret
  refine ⟨?_, KA.out.trans_no (Kp.drewN _)⟩
  first
  | rfl
  | (rw [hb, ho]; rfl)

/-! ### 'Prefix' of the package header -/
set_option maxRecDepth 100000 in
set_option maxHeartbeats 2000000 in
theorem Prefix_ok {p c : Nat} {M : Mgr} {L : Lay} {B : List (Int × Bfn)} (k : Nat) (hk : k < 2) (nx : Bool) (ad : Nat) (ln : Int) (had : ad < 4294967296) (hv : pvB ad ln = true) {w : World} (R : Rep w p M L) (q : Qk 220 c M B) (g : Gl w) (ho : ¬ L.at p 0) (hc : c ≤ 500000000000) :
    Calls Tryd.prog 37 #[ptr p, .int .i64 (k : Int), .bool nx, .agg #[.int .u32 (ad : Int), .int .i64 ln]] w (OpQ p 220 (c + 10000000) L w (wiF k nx ad (ntN (mkN (clI ln))) 32) B) := by
  have MK := Lib.hid (fun (y : World) => Mask_ok ln y)
  have VD := Lib.hid (fun (y : World) => Valid_ok ad ln y)
  rw [hv] at VD
  have hb := bits_not (mkN (clI ln))
  have hnl := ntN_lt (mkN (clI ln))
  have KA := Lib.hid (Kp.alloc (w := w) (.cells #[.int .u32 (ad : Int), .int .i64 ln] 57))
  have BX : Hid ((w.alloc (.cells #[.int .u32 (ad : Int), .int .i64 ln] 57)).heap[w.heap.size]? = some (.cells #[.int .u32 (ad : Int), .int .i64 ln] 57 (0, 0))) := Lib.hid (heap_alloc_new _ _)
  have RR := Lib.hid R
  have GG := Lib.hid g
  have QQ := Lib.hid q
  have OO := Lib.hid ho
  have CK : Hid (∀ y, Kp No (w.alloc (.cells #[.int .u32 (ad : Int), .int .i64 ln] 57)) y → y.cell? ⟨w.heap.size, 0, none⟩ = some (.int .u32 (ad : Int)) ∧ y.cell? ⟨w.heap.size, 1, none⟩ = some (.int .i64 ln)) := Lib.hid (fun y k => by
    have bx := BX.out
    rw [← k.block _ (heap_lt bx) (fun x => x)] at bx
    exact ⟨by rw [cell_of_row _ _ _ _ _ _ bx]; rfl, by rw [cell_of_row _ _ _ _ _ _ bx]; rfl⟩)
  generalize mkN (clI ln) = m at *
  generalize ntN m = nm at *
  clear R g q ho hv
  go_enter Tryd.func37, Tryd.ntmps37
  go_wp2_with fail
  refine (VD.out _).mono ?_
  rintro e w1 ⟨rfl, k1⟩
  have K1 := Lib.hid k1
  have S0 := Lib.hid (CK.out _ (k1.trans_no Kp.drew))
  have WL : Hid (∀ (y : World), Kp No w y → Calls Tryd.prog 35 #[ptr p, .int .i64 (k : Int), .bool nx, .agg #[.int .u32 (ad : Int), .int .u32 (bits BinOp.xor IntKind.u32 (if IntKind.u32.signed = true then -1 else IntKind.u32.max) (m : Int))]] y (OpQ p 220 (c + 10000000) L y (wiF k nx ad nm 32) B)) := Lib.hid (fun (y : World) (ky : Kp No w y) => by rw [show (if IntKind.u32.signed = true then (-1 : Int) else IntKind.u32.max) = IntKind.u32.max from rfl, hb]; exact Wild_ok k hk nx ad nm had hnl (RR.out.no ky) QQ.out (GG.out.no ky) OO.out hc)
  have WLD := Lib.hid (WL.out _ ((KA.out.trans_no k1).trans_no (Kp.drew (w := w1))))
  clear hb
  clear k1
  have KD := Lib.hid ((KA.out.trans_no K1.out).trans_no (Kp.drew (w := w1)))
  have BL : Hid (∀ (y z : World), Kp (L.at p) y z → (y.cell? ⟨w.heap.size, 0, none⟩ = some (.int .u32 (ad : Int)) ∧ y.cell? ⟨w.heap.size, 1, none⟩ = some (.int .i64 ln)) → z.cell? ⟨w.heap.size, 0, none⟩ = some (.int .u32 (ad : Int)) ∧ z.cell? ⟨w.heap.size, 1, none⟩ = some (.int .i64 ln)) := Lib.hid (fun y z k h => by
    have hn : ¬ L.at p w.heap.size := fun h => by have := RR.out.lt _ h; omega
    have hlt : w.heap.size < y.heap.size := World.block_lt_of_cell? _ _ h.1
    exact ⟨by rw [k.cell hlt hn]; exact h.1, by rw [k.cell hlt hn]; exact h.2⟩)
  go_upto_region 3 with (fail)
  go_region_held3 (fun y => y.cell? ⟨w.heap.size, 0, none⟩ = some (.int .u32 (ad : Int)) ∧ y.cell? ⟨w.heap.size, 1, none⟩ = some (.int .i64 ln)) (first | exact S0.out | exact SB.out)
    (first | (go_at_call 67; (with_reducible refine (MK.out _).mono ?_); rintro e wm ⟨rfl, rfl⟩) | (go_at_call 35; (with_reducible refine WLD.out.mono ?_); intro e wb hw; obtain ⟨r, M', ⟨L', rfl, rr, kk, ff⟩, qk, h0⟩ := hw; have SB := Lib.hid (BL.out _ _ kk S0.out); have FIN : Hid (OpQ p 220 (c + 10000000) L w (wiF k nx ad nm 32) B (.returned (.int .i64 r)) wb) := Lib.hid (OpQ.before KD.out ⟨r, M', ⟨L', rfl, rr, kk, ff⟩, qk, h0⟩); clear rr kk ff qk))
  all_goals
    go_wp2_with fail
    go_ret
    exact FIN.out

set_option maxRecDepth 100000 in
theorem Prefix_bad (x : Int) (p : Nat) (nx : Bool) (ad : Nat) (ln : Int) (hv : pvB ad ln = false) (w : World) : Calls Tryd.prog 37 #[ptr p, .int .i64 x, .bool nx, .agg #[.int .u32 (ad : Int), .int .i64 ln]] w fun e w' => e = .returned (.int .i64 (-1)) ∧ Kp No w w' := by
  have VD := Lib.hid (fun (y : World) => Valid_ok ad ln y)
  rw [hv] at VD
  clear hv
  go_enter Tryd.func37, Tryd.ntmps37
  go_wp2_with fail
  refine (VD.out _).mono ?_
  rintro e w1 ⟨rfl, k1⟩
  have K1 := Lib.hid ((Kp.alloc _).trans_no k1)
  clear k1
  go_wp2_with fail
  go_ret
  exact ⟨rfl, K1.out⟩

end Go.Proofs.YtgglkldoclejaaaDoor
