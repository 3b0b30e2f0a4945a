/-
  Plain mathematics: prefixes as wildcards and as ranges.
-/
import Derived.Test.YtohinonkfhkclaaDoorHw6
import Derived.Test.YtohinonkfhkclaaDoorCube
import Derived.Deep.QuietTactic
import Derived.BigQuiet
import Derived.Deep.RegionHeld3
namespace Go.Proofs.YtohinonkfhkclaaDoor
open Go.RowKit

theorem eq_of_bits {a b : Nat} (ha : a < 4294967296) (hb : b < 4294967296) (h : ∀ i, i < 32 → a.testBit i = b.testBit i) : a = b := by
  apply Nat.eq_of_testBit_eq
  intro i
  by_cases hi : i < 32
  · exact h i hi
  · have hp : 4294967296 ≤ 2 ^ i := by
      have : 2 ^ 32 ≤ 2 ^ i := Nat.pow_le_pow_right (by omega) (by omega)
      omega
    rw [Nat.testBit_lt_two_pow (by omega), Nat.testBit_lt_two_pow (by omega)]

/-- 'a &^ m'. -/
def andn (a m : Nat) : Nat := (BitVec.ofNat 32 a &&& ~~~ BitVec.ofNat 32 m).toNat
theorem andn_lt (a m : Nat) : andn a m < 4294967296 := (BitVec.ofNat 32 a &&& ~~~ BitVec.ofNat 32 m).isLt
theorem andn_bit (a m : Nat) {i : Nat} (hi : i < 32) : (andn a m).testBit i = (a.testBit i && !m.testBit i) := by
  unfold andn
  rw [BitVec.testBit_toNat, BitVec.getLsbD_and, BitVec.getLsbD_not, BitVec.getLsbD_ofNat, BitVec.getLsbD_ofNat]
  simp [hi]
theorem bits_andn (a m : Nat) : bits BinOp.andNot IntKind.u32 (a : Int) (m : Int) = (andn a m : Int) := by
  unfold bits andn
  simp only [BitVec.ofInt_natCast]
  rw [IntKind.wrap_u32]
  have := andn_lt a m
  unfold andn at this
  show ((BitVec.ofNat 32 a &&& ~~~ BitVec.ofNat 32 m).toNat : Int) % 4294967296 = _
  omega

/-- The literals of a wildcard. -/
def wlits (k : Nat) (nx : Bool) (ad ma : Nat) : Nat → List Lit2
  | 0 => []
  | j + 1 => if ma.testBit j then wlits k nx ad ma j else (fvar k (fw k - 1 - j) nx, ad.testBit j) :: wlits k nx ad ma j
def cz (ma : Nat) : Nat → Nat
  | 0 => 0
  | j + 1 => cz ma j + if ma.testBit j then 0 else 1
theorem cz_le (ma : Nat) : ∀ j, cz ma j ≤ j
  | 0 => Nat.le_refl _
  | j + 1 => by have := cz_le ma j; simp only [cz]; split <;> omega
theorem wlits_eq (k : Nat) (nx : Bool) (ad ma : Nat) (a : Nat → Bool) : ∀ j, wiF k nx ad ma j a = cubeF (wlits k nx ad ma j) a
  | 0 => rfl
  | j + 1 => by
    have ih := wlits_eq k nx ad ma a j
    show wildB _ _ _ _ = _
    simp only [wildB, wlits]
    split
    · exact ih
    · have e : cubeF ((fvar k (fw k - 1 - j) nx, ad.testBit j) :: wlits k nx ad ma j) a = ((a (fvar k (fw k - 1 - j) nx) == ad.testBit j) && cubeF (wlits k nx ad ma j) a) := by simp [cubeF]
      rw [e, ← ih]; rfl
theorem wlits_mem (k : Nat) (nx : Bool) (ad ma : Nat) : ∀ j x, x ∈ wlits k nx ad ma j → ∃ i, i < j ∧ x = (fvar k (fw k - 1 - i) nx, ad.testBit i)
  | 0, x, h => by simp [wlits] at h
  | j + 1, x, h => by
    simp only [wlits] at h
    split at h
    · obtain ⟨i, hi, e⟩ := wlits_mem k nx ad ma j x h
      exact ⟨i, by omega, e⟩
    · rcases List.mem_cons.1 h with rfl | h
      · exact ⟨j, by omega, rfl⟩
      · obtain ⟨i, hi, e⟩ := wlits_mem k nx ad ma j x h
        exact ⟨i, by omega, e⟩
theorem fvar_inj {k i j : Nat} {nx : Bool} (hi : i < fw k) (hj : j < fw k) (h : fvar k (fw k - 1 - i) nx = fvar k (fw k - 1 - j) nx) : i = j := by
  rw [fvar_eq, fvar_eq] at h; omega
theorem wlits_vars (k : Nat) (nx : Bool) (ad ma : Nat) : ∀ j, j ≤ fw k → (varsOf (wlits k nx ad ma j)).length = cz ma j
  | 0, _ => rfl
  | j + 1, h => by
    have ih := wlits_vars k nx ad ma j (by omega)
    simp only [wlits, cz]
    split
    · exact ih
    · have hn : fvar k (fw k - 1 - j) nx ∉ varsOf (wlits k nx ad ma j) := fun hm => by
        obtain ⟨b, hb⟩ := (varsOf_mem _ _).1 hm
        obtain ⟨i, hi, e⟩ := wlits_mem k nx ad ma j _ hb
        have := fvar_inj (nx := nx) (show j < fw k by omega) (show i < fw k by omega) (congrArg Prod.fst e)
        omega
      have e : varsOf ((fvar k (fw k - 1 - j) nx, ad.testBit j) :: wlits k nx ad ma j) = fvar k (fw k - 1 - j) nx :: varsOf (wlits k nx ad ma j) := by
        show (if _ then _ else _) = _
        rw [if_neg hn]
      rw [e, List.length_cons, ih]
theorem wlits_consis (k : Nat) (nx : Bool) (ad ma : Nat) {j : Nat} (hj : j ≤ fw k) : Consis (wlits k nx ad ma j) := by
  rintro v ⟨h1, h2⟩
  obtain ⟨i, hi, e⟩ := wlits_mem k nx ad ma j _ h1
  obtain ⟨i', hi', e'⟩ := wlits_mem k nx ad ma j _ h2
  have : i = i' := fvar_inj (k := k) (nx := nx) (by omega) (by omega) ((congrArg Prod.fst e).symm.trans (congrArg Prod.fst e'))
  subst this
  have a := congrArg Prod.snd e
  have b := congrArg Prod.snd e'
  simp only at a b
  rw [← a] at b; cases b

/-- The size of a wildcard's diagram. -/
theorem wild_size {c : Nat} {M : Mgr} {B : List (Int × Bfn)} {r : Int} {k : Nat} {nx : Bool} {ad ma : Nat} (hk : k < 5) (q : Qk 220 c M B) (h : (r, wiF k nx ad ma (fw k)) ∈ B) : M.sizeM r = cz ma (fw k) := by
  obtain ⟨hv, hs⟩ := q.at h
  have hs' : ∀ a, M.sem r.toNat a = cubeF (wlits k nx ad ma (fw k)) a := fun a => by rw [hs, wlits_eq]
  obtain ⟨n, rfl, sn, _⟩ := Mgr.valid_nat q.wf hv
  rw [Int.toNat_natCast] at hs'
  unfold Mgr.sizeM
  rw [if_pos hv, Int.toNat_natCast]
  have e2 := Mgr.size_supp q.wf sn (by
    have : M.sem n = cubeF (wlits k nx ad ma (fw k)) := funext hs'
    rw [this]; exact cube_one M _)
  rw [e2, cube_supp q.wf sn hs' (fun x hx => by
    obtain ⟨i, hi, rfl⟩ := wlits_mem k nx ad ma _ x hx
    rw [q.nn]; exact fvar_lt hk (by omega) nx) (wlits_consis k nx ad ma (Nat.le_refl _)), wlits_vars k nx ad ma _ (Nat.le_refl _)]

/-- Which packets match. -/
theorem wild_enc (dn : Nat → Bool) (p q : Pkt) {k : Nat} (hk : k < 5) (nx : Bool) (ad ma : Nat) : wiF k nx ad ma (fw k) (asg (gL (encF dn p q))) = true ↔ ∀ i, i < fw k → ma.testBit i = false → ((if nx then q else p).f k).testBit i = ad.testBit i := by
  show wildB _ _ _ _ = true ↔ _
  rw [wildB_iff]
  have e : ∀ i, i < fw k → fbit k nx (asg (gL (encF dn p q))) i = ((if nx then q else p).f k).testBit i := fun i hi => by
    unfold fbit
    rw [gL_at _ (fvar_lt hk (by omega) nx)]
    unfold fvar
    rw [enc_bit, Pkt.bit_at _ hk (by omega)]
    congr 1
    omega
  constructor
  · intro h i hi hm; rw [← e i hi]; exact h i hi hm
  · intro h i hi hm; rw [e i hi]; exact h i hi hm

end Go.Proofs.YtohinonkfhkclaaDoor

namespace Go.Proofs.YtohinonkfhkclaaDoor
open Go.RowKit

def clI (n : Int) : Nat := if n < 0 then 0 else if 32 < n then 32 else n.toNat
theorem clI_le (n : Int) : clI n ≤ 32 := by unfold clI; split; omega; split <;> omega
theorem clI_in {n : Int} (h0 : 0 ≤ n) (h1 : n ≤ 32) : (clI n : Int) = n := by unfold clI; rw [if_neg (by omega), if_neg (by omega)]; omega

set_option maxRecDepth 100000 in
theorem clamp_ok (n : Int) (w : World) : Calls Tryd.prog 95 #[.int .i64 n] w fun e w' => e = .returned (.int .i64 (clI n : Int)) ∧ w = w' := by
  by_cases h0 : n < 0
  · have e : (clI n : Int) = 0 := by unfold clI; rw [if_pos h0]; rfl
    rw [e]
    have h1 : ¬ (32 : Int) < n := by omega
    go_enter Tryd.func95, Tryd.ntmps95
    go_wp2_with fail
    go_ret
    exact ⟨rfl, rfl⟩
  · by_cases h1 : (32 : Int) < n
    · have e : (clI n : Int) = 32 := by unfold clI; rw [if_neg h0, if_pos h1]; rfl
      rw [e]
      go_enter Tryd.func95, Tryd.ntmps95
      go_wp2_with fail
      go_ret
      exact ⟨rfl, rfl⟩
    · rw [clI_in (by omega) (by omega)]
      have h2 : (0 : Int) ≤ n := by omega
      by_cases h3 : n = 0
      · subst h3
        go_enter Tryd.func95, Tryd.ntmps95
        go_wp2_with fail
        go_ret
        exact ⟨rfl, rfl⟩
      · have h4 : (0 : Int) < n := by omega
        go_enter Tryd.func95, Tryd.ntmps95
        go_wp2_with fail
        go_ret
        exact ⟨rfl, rfl⟩

/-- The number whose first c bits are 1. -/
def mkN (c : Nat) : Nat := (2 ^ c - 1) * 2 ^ (32 - c)
theorem mkN_bit {c i : Nat} (hc : c ≤ 32) (hi : i < 32) : (mkN c).testBit i = decide (32 - c ≤ i) := by
  unfold mkN
  rw [Nat.testBit_mul_two_pow, Nat.testBit_two_pow_sub_one, Bool.eq_iff_iff]
  simp
  omega
theorem mkN_val {c : Nat} (hc : c ≤ 32) : mkN c + 2 ^ (32 - c) = 4294967296 := by
  unfold mkN
  have h : (2 : Nat) ^ c * 2 ^ (32 - c) = 4294967296 := by rw [← Nat.pow_add, show c + (32 - c) = 32 by omega]
  have hp : 0 < 2 ^ c := Nat.pow_pos (by omega)
  rw [Nat.sub_mul, h, Nat.one_mul]
  have : 2 ^ (32 - c) ≤ 4294967296 := by rw [← h]; exact Nat.le_mul_of_pos_left _ hp
  omega
theorem mkN_lt {c : Nat} (hc : c ≤ 32) : mkN c < 4294967296 := by
  have := mkN_val hc
  have : 0 < 2 ^ (32 - c) := Nat.pow_pos (by omega)
  omega

set_option maxRecDepth 100000 in
theorem Mask_ok (n : Int) (w : World) : Calls Tryd.prog 77 #[.int .i64 n] w fun e w' => e = .returned (.int .u32 (mkN (clI n) : Int)) ∧ w = w' := by
  have C := Lib.hid (clamp_ok n w)
  have hc := clI_le n
  have hv : ((4294967295 : Int) * 2 ^ (32 - clI n)) % 4294967296 = (mkN (clI n) : Int) := by
    have h1 := mkN_val hc
    have h2 : (0 : Nat) < 2 ^ (32 - clI n) := Nat.pow_pos (by omega)
    have h3 : ((2 : Int) ^ (32 - clI n)) = ((2 ^ (32 - clI n) : Nat) : Int) := by simp
    rw [h3]
    generalize 2 ^ (32 - clI n) = z at *
    have : (4294967295 : Int) * (z : Int) = (mkN (clI n) : Int) + 4294967296 * ((z : Int) - 1) := by omega
    rw [this, Int.add_mul_emod_self_left]
    have := mkN_lt hc
    omega
  have HV := Lib.hid hv
  clear hv
  generalize mkN (clI n) = m at *
  generalize clI n = cl at *
  go_enter Tryd.func77, Tryd.ntmps77
  go_wp2_with fail
  refine C.out.mono ?_
  rintro e w' ⟨rfl, rfl⟩
  go_wp2_with fail
  go_ret
  exact ⟨by rw [HV.out]; rfl, rfl⟩

def pvB (ad : Nat) (ln : Int) : Bool := decide (0 ≤ ln ∧ ln ≤ 32) && ((andn ad (mkN (clI ln)) : Int) == 0)
set_option maxRecDepth 100000 in
theorem Valid_ok (ad : Nat) (ln : Int) (w : World) : Calls Tryd.prog 56 #[.agg #[.int .u32 (ad : Int), .int .i64 ln]] w fun e w' => e = .returned (.bool (pvB ad ln)) ∧ Kp No w w' := by
  by_cases h0 : 0 ≤ ln
  · by_cases h1 : ln ≤ 32
    · have e : pvB ad ln = ((andn ad (mkN (clI ln)) : Int) == 0) := by unfold pvB; rw [decide_eq_true (And.intro h0 h1), Bool.true_and]
      rw [e]
      have MK := Lib.hid (fun (y : World) => (Mask_ok ln y).mono (fun _ _ h => And.intro h.1 h.2.symm))
      have hb := bits_andn ad (mkN (clI ln))
      generalize mkN (clI ln) = m at *
      generalize andn ad m = an at *
      clear e
      have KA := Lib.hid (Kp.alloc (w := w) (.cells #[.int .u32 (ad : Int), .int .i64 ln] 42))
      have c0 : (w.alloc (.cells #[.int .u32 (ad : Int), .int .i64 ln] 42)).cell? ⟨w.heap.size, 0, none⟩ = some (.int .u32 (ad : Int)) := by rw [cell_of_row _ _ _ _ _ _ (heap_alloc_new _ _)]; rfl
      have c1 : (w.alloc (.cells #[.int .u32 (ad : Int), .int .i64 ln] 42)).cell? ⟨w.heap.size, 1, none⟩ = some (.int .i64 ln) := by rw [cell_of_row _ _ _ _ _ _ (heap_alloc_new _ _)]; rfl
      go_enter Tryd.func56, Tryd.ntmps56
      go_upto_region 1 with (fail)
      generalize w.alloc (.cells #[.int .u32 (ad : Int), .int .i64 ln] 42) = wA at *
      go_quiet ((go_at_call 77; exact Calls.quiet_of_same (MK.out _)))
      go_wp2_with fail
      go_ret
      exact ⟨rfl, KA.out.trans_no (Kp.drewN _)⟩
    · have e : pvB ad ln = false := by unfold pvB; rw [decide_eq_false (fun h => h1 h.2), Bool.false_and]
      rw [e]
      have h1' : decide (ln ≤ 32) = false := decide_eq_false h1
      clear e
      have KA := Lib.hid (Kp.alloc (w := w) (.cells #[.int .u32 (ad : Int), .int .i64 ln] 42))
      have c0 : (w.alloc (.cells #[.int .u32 (ad : Int), .int .i64 ln] 42)).cell? ⟨w.heap.size, 0, none⟩ = some (.int .u32 (ad : Int)) := by rw [cell_of_row _ _ _ _ _ _ (heap_alloc_new _ _)]; rfl
      have c1 : (w.alloc (.cells #[.int .u32 (ad : Int), .int .i64 ln] 42)).cell? ⟨w.heap.size, 1, none⟩ = some (.int .i64 ln) := by rw [cell_of_row _ _ _ _ _ _ (heap_alloc_new _ _)]; rfl
      go_enter Tryd.func56, Tryd.ntmps56
      go_upto_region 1 with (fail)
      generalize w.alloc (.cells #[.int .u32 (ad : Int), .int .i64 ln] 42) = wA at *
      go_quiet (fail)
      go_wp2_with fail
      go_ret
      exact ⟨rfl, KA.out.trans_no (Kp.drewN _)⟩
  · have e : pvB ad ln = false := by unfold pvB; rw [decide_eq_false (fun h => h0 h.1), Bool.false_and]
    rw [e]
    have h0' : decide (0 ≤ ln) = false := decide_eq_false h0
    clear e
    have KA := Lib.hid (Kp.alloc (w := w) (.cells #[.int .u32 (ad : Int), .int .i64 ln] 42))
    have c0 : (w.alloc (.cells #[.int .u32 (ad : Int), .int .i64 ln] 42)).cell? ⟨w.heap.size, 0, none⟩ = some (.int .u32 (ad : Int)) := by rw [cell_of_row _ _ _ _ _ _ (heap_alloc_new _ _)]; rfl
    have c1 : (w.alloc (.cells #[.int .u32 (ad : Int), .int .i64 ln] 42)).cell? ⟨w.heap.size, 1, none⟩ = some (.int .i64 ln) := by rw [cell_of_row _ _ _ _ _ _ (heap_alloc_new _ _)]; rfl
    go_enter Tryd.func56, Tryd.ntmps56
    go_upto_region 1 with (fail)
    generalize w.alloc (.cells #[.int .u32 (ad : Int), .int .i64 ln] 42) = wA at *
    go_quiet (fail)
    go_wp2_with fail
    go_ret
    exact ⟨rfl, KA.out.trans_no (Kp.drewN _)⟩

def ctB (ad : Nat) (ln : Int) (a : Nat) : Bool := (((a &&& mkN (clI ln) : Nat) : Int) == (ad : Int))
/-- '^m'. -/
def ntN (m : Nat) : Nat := (BitVec.allOnes 32 ^^^ BitVec.ofNat 32 m).toNat
theorem ntN_lt (m : Nat) : ntN m < 4294967296 := (BitVec.allOnes 32 ^^^ BitVec.ofNat 32 m).isLt
theorem ntN_bit (m : Nat) {i : Nat} (hi : i < 32) : (ntN m).testBit i = !m.testBit i := by
  unfold ntN
  rw [BitVec.testBit_toNat, BitVec.getLsbD_xor, BitVec.getLsbD_allOnes, BitVec.getLsbD_ofNat]
  simp [hi]
theorem bits_not (m : Nat) : bits BinOp.xor IntKind.u32 IntKind.u32.max (m : Int) = (ntN m : Int) := by
  have hm : IntKind.u32.max = ((4294967295 : Nat) : Int) := rfl
  rw [hm]
  unfold bits ntN
  simp only [BitVec.ofInt_natCast]
  rw [IntKind.wrap_u32]
  have := ntN_lt m
  unfold ntN at this
  have e : BitVec.ofNat 32 4294967295 = BitVec.allOnes 32 := by decide
  show ((BitVec.ofNat 32 4294967295 ^^^ BitVec.ofNat 32 m).toNat : Int) % 4294967296 = _
  rw [e]
  omega
def lsN (ad : Nat) (ln : Int) : Nat := ad ||| ntN (mkN (clI ln))
theorem lsN_lt {ad : Nat} (had : ad < 4294967296) (ln : Int) : lsN ad ln < 4294967296 := Nat.or_lt_two_pow (n := 32) had (ntN_lt _)
/-! ### 'Prefix' of the package header -/
set_option maxRecDepth 100000 in
set_option maxHeartbeats 2000000 in
theorem Prefix_ok {p c : Nat} {M : Mgr} {L : Lay} {B : List (Int × Bfn)} (k : Nat) (hk : k < 2) (nx : Bool) (ad : Nat) (ln : Int) (had : ad < 4294967296) (hv : pvB ad ln = true) {w : World} (R : Rep w p M L) (q : Qk 220 c M B) (g : Gl w) (ho : ¬ L.at p 0) (hc : c ≤ 500000000000) :
    Calls Tryd.prog 58 #[ptr p, .int .i64 (k : Int), .bool nx, .agg #[.int .u32 (ad : Int), .int .i64 ln]] w (OpQ p 220 (c + 10000000) L w (wiF k nx ad (ntN (mkN (clI ln))) 32) B) := by
  have MK := Lib.hid (fun (y : World) => Mask_ok ln y)
  have VD := Lib.hid (fun (y : World) => Valid_ok ad ln y)
  rw [hv] at VD
  have hb := bits_not (mkN (clI ln))
  have hnl := ntN_lt (mkN (clI ln))
  have KA := Lib.hid (Kp.alloc (w := w) (.cells #[.int .u32 (ad : Int), .int .i64 ln] 42))
  have BX : Hid ((w.alloc (.cells #[.int .u32 (ad : Int), .int .i64 ln] 42)).heap[w.heap.size]? = some (.cells #[.int .u32 (ad : Int), .int .i64 ln] 42 (0, 0))) := Lib.hid (heap_alloc_new _ _)
  have RR := Lib.hid R
  have GG := Lib.hid g
  have QQ := Lib.hid q
  have OO := Lib.hid ho
  have CK : Hid (∀ y, Kp No (w.alloc (.cells #[.int .u32 (ad : Int), .int .i64 ln] 42)) y → y.cell? ⟨w.heap.size, 0, none⟩ = some (.int .u32 (ad : Int)) ∧ y.cell? ⟨w.heap.size, 1, none⟩ = some (.int .i64 ln)) := Lib.hid (fun y k => by
    have bx := BX.out
    rw [← k.block _ (heap_lt bx) (fun x => x)] at bx
    exact ⟨by rw [cell_of_row _ _ _ _ _ _ bx]; rfl, by rw [cell_of_row _ _ _ _ _ _ bx]; rfl⟩)
  generalize mkN (clI ln) = m at *
  generalize ntN m = nm at *
  clear R g q ho hv
  go_enter Tryd.func58, Tryd.ntmps58
  go_wp2_with fail
  refine (VD.out _).mono ?_
  rintro e w1 ⟨rfl, k1⟩
  have K1 := Lib.hid k1
  have S0 := Lib.hid (CK.out _ (k1.trans_no Kp.drew))
  have WL : Hid (∀ (y : World), Kp No w y → Calls Tryd.prog 78 #[ptr p, .int .i64 (k : Int), .bool nx, .agg #[.int .u32 (ad : Int), .int .u32 (bits BinOp.xor IntKind.u32 (if IntKind.u32.signed = true then -1 else IntKind.u32.max) (m : Int))]] y (OpQ p 220 (c + 10000000) L y (wiF k nx ad nm 32) B)) := Lib.hid (fun (y : World) (ky : Kp No w y) => by rw [show (if IntKind.u32.signed = true then (-1 : Int) else IntKind.u32.max) = IntKind.u32.max from rfl, hb]; exact Wild_ok k hk nx ad nm had hnl (RR.out.no ky) QQ.out (GG.out.no ky) OO.out hc)
  have WLD := Lib.hid (WL.out _ ((KA.out.trans_no k1).trans_no (Kp.drew (w := w1))))
  clear hb
  clear k1
  have KD := Lib.hid ((KA.out.trans_no K1.out).trans_no (Kp.drew (w := w1)))
  have BL : Hid (∀ (y z : World), Kp (L.at p) y z → (y.cell? ⟨w.heap.size, 0, none⟩ = some (.int .u32 (ad : Int)) ∧ y.cell? ⟨w.heap.size, 1, none⟩ = some (.int .i64 ln)) → z.cell? ⟨w.heap.size, 0, none⟩ = some (.int .u32 (ad : Int)) ∧ z.cell? ⟨w.heap.size, 1, none⟩ = some (.int .i64 ln)) := Lib.hid (fun y z k h => by
    have hn : ¬ L.at p w.heap.size := fun h => by have := RR.out.lt _ h; omega
    have hlt : w.heap.size < y.heap.size := World.block_lt_of_cell? _ _ h.1
    exact ⟨by rw [k.cell hlt hn]; exact h.1, by rw [k.cell hlt hn]; exact h.2⟩)
  go_upto_region 3 with (fail)
  go_region_held3 (fun y => y.cell? ⟨w.heap.size, 0, none⟩ = some (.int .u32 (ad : Int)) ∧ y.cell? ⟨w.heap.size, 1, none⟩ = some (.int .i64 ln)) (first | exact S0.out | exact SB.out)
    (first | (go_at_call 77; (with_reducible refine (MK.out _).mono ?_); rintro e wm ⟨rfl, rfl⟩) | (go_at_call 78; (with_reducible refine WLD.out.mono ?_); intro e wb hw; obtain ⟨r, M', ⟨L', rfl, rr, kk, ff⟩, qk, h0⟩ := hw; have SB := Lib.hid (BL.out _ _ kk S0.out); have FIN : Hid (OpQ p 220 (c + 10000000) L w (wiF k nx ad nm 32) B (.returned (.int .i64 r)) wb) := Lib.hid (OpQ.before KD.out ⟨r, M', ⟨L', rfl, rr, kk, ff⟩, qk, h0⟩); clear rr kk ff qk))
  all_goals
    go_wp2_with fail
    go_ret
    exact FIN.out

set_option maxRecDepth 100000 in
theorem Prefix_bad (x : Int) (p : Nat) (nx : Bool) (ad : Nat) (ln : Int) (hv : pvB ad ln = false) (w : World) : Calls Tryd.prog 58 #[ptr p, .int .i64 x, .bool nx, .agg #[.int .u32 (ad : Int), .int .i64 ln]] w fun e w' => e = .returned (.int .i64 (-1)) ∧ Kp No w w' := by
  have VD := Lib.hid (fun (y : World) => Valid_ok ad ln y)
  rw [hv] at VD
  clear hv
  go_enter Tryd.func58, Tryd.ntmps58
  go_wp2_with fail
  refine (VD.out _).mono ?_
  rintro e w1 ⟨rfl, k1⟩
  have K1 := Lib.hid ((Kp.alloc _).trans_no k1)
  clear k1
  go_wp2_with fail
  go_ret
  exact ⟨rfl, K1.out⟩

end Go.Proofs.YtohinonkfhkclaaDoor

namespace Go.Proofs.YtohinonkfhkclaaDoor
open Go.RowKit

theorem bval_testbit (g : Nat → Bool) : ∀ k i, i < k → (bval g k).testBit i = g i
  | 0, _, h => by omega
  | k + 1, i, h => by
    have hb := bval_lt g k
    by_cases e : i = k
    · subst e
      simp only [bval]
      cases hg : g i
      · simp only [Bool.false_eq_true, if_false, Nat.add_zero]; exact Nat.testBit_lt_two_pow hb
      · simp only [if_true]
        rw [Nat.add_comm, Nat.testBit_two_pow_add_eq, Nat.testBit_lt_two_pow hb]; rfl
    · have ih := bval_testbit g k i (by omega)
      simp only [bval]
      cases hg : g k
      · simp only [Bool.false_eq_true, if_false, Nat.add_zero]; exact ih
      · simp only [if_true]
        rw [Nat.add_comm, Nat.testBit_two_pow_add_gt (by omega), ih]

theorem nt_mk {c : Nat} (hc : c ≤ 32) : ntN (mkN c) = 2 ^ (32 - c) - 1 := by
  have hp : 2 ^ (32 - c) ≤ 2 ^ 32 := Nat.pow_le_pow_right (by omega) (by omega)
  have hp0 : 0 < 2 ^ (32 - c) := Nat.pow_pos (by omega)
  refine eq_of_bits (ntN_lt _) (by omega) (fun i hi => ?_)
  rw [ntN_bit _ hi, mkN_bit hc hi, Nat.testBit_two_pow_sub_one, Bool.eq_iff_iff]
  simp
  omega
theorem cz_mk {c : Nat} (hc : c ≤ 32) : ∀ j, j ≤ 32 → cz (ntN (mkN c)) j = j - (32 - c)
  | 0, _ => by simp [cz]
  | j + 1, h => by
    have ih := cz_mk hc j (by omega)
    simp only [cz]
    rw [ih, ntN_bit _ (by omega), mkN_bit hc (by omega)]
    by_cases hj : 32 - c ≤ j
    · simp [hj]; omega
    · simp [hj]; omega

/-- A valid prefix has no bits behind its length. -/
theorem pv_bits {ad : Nat} {ln : Int} (hv : pvB ad ln = true) : (0 ≤ ln ∧ ln ≤ 32) ∧ ∀ i, i < 32 → ad.testBit i = true → (mkN (clI ln)).testBit i = true := by
  unfold pvB at hv
  simp only [Bool.and_eq_true, decide_eq_true_eq, beq_iff_eq] at hv
  refine ⟨hv.1, fun i hi h => ?_⟩
  have h0 : andn ad (mkN (clI ln)) = 0 := by omega
  have := andn_bit ad (mkN (clI ln)) hi
  rw [h0, h] at this
  simp at this
  exact this
theorem ct_iff {ad : Nat} {ln : Int} (had : ad < 4294967296) (hv : pvB ad ln = true) {z : Nat} (hz : z < 4294967296) : ctB ad ln z = true ↔ ∀ i, i < 32 → (ntN (mkN (clI ln))).testBit i = false → z.testBit i = ad.testBit i := by
  obtain ⟨_, hb⟩ := pv_bits hv
  unfold ctB
  rw [beq_iff_eq]
  have hlt : z &&& mkN (clI ln) < 4294967296 := Nat.lt_of_le_of_lt Nat.and_le_left hz
  constructor
  · intro h i hi hm
    have h' : z &&& mkN (clI ln) = ad := by omega
    rw [ntN_bit _ hi] at hm
    rw [← h', Nat.testBit_and]
    simp at hm
    rw [hm]; simp
  · intro h
    have : z &&& mkN (clI ln) = ad := eq_of_bits hlt had (fun i hi => by
      rw [Nat.testBit_and]
      cases hm : (mkN (clI ln)).testBit i
      · rw [Bool.and_false]
        cases ha : ad.testBit i
        · rfl
        · rw [hb i hi ha] at hm; cases hm
      · rw [h i hi (by rw [ntN_bit _ hi, hm]; rfl)]; simp)
    rw [this]

/-- A prefix is a range. -/
theorem rg_iff {ad : Nat} {ln : Int} (had : ad < 4294967296) (hv : pvB ad ln = true) {z : Nat} (hz : z < 4294967296) : (ad ≤ z ∧ z ≤ lsN ad ln) ↔ ∀ i, i < 32 → (ntN (mkN (clI ln))).testBit i = false → z.testBit i = ad.testBit i := by
  obtain ⟨_, hb⟩ := pv_bits hv
  have hc := clI_le ln
  have hn := nt_mk hc
  have hp : 0 < 2 ^ (32 - clI ln) := Nat.pow_pos (by omega)
  have low : ad % 2 ^ (32 - clI ln) = 0 := by
    apply Nat.eq_of_testBit_eq
    intro i
    rw [Nat.testBit_mod_two_pow, Nat.zero_testBit]
    by_cases hi : i < 32 - clI ln
    · cases ha : ad.testBit i
      · simp
      · have := hb i (by omega) ha
        rw [mkN_bit hc (by omega)] at this
        simp at this
        omega
    · simp [hi]
  have hls : lsN ad ln = ad + (2 ^ (32 - clI ln) - 1) := by
    unfold lsN
    rw [hn]
    have hq : ad = 2 ^ (32 - clI ln) * (ad / 2 ^ (32 - clI ln)) := by have := Nat.div_add_mod ad (2 ^ (32 - clI ln)); omega
    have := Nat.two_pow_add_eq_or_of_lt (i := 32 - clI ln) (b := 2 ^ (32 - clI ln) - 1) (by omega) (ad / 2 ^ (32 - clI ln))
    rw [← hq] at this
    exact this.symm
  rw [hls]
  have div : (ad ≤ z ∧ z ≤ ad + (2 ^ (32 - clI ln) - 1)) ↔ z / 2 ^ (32 - clI ln) = ad / 2 ^ (32 - clI ln) := by
    have h1 := Nat.div_add_mod ad (2 ^ (32 - clI ln))
    have h2 := Nat.div_add_mod z (2 ^ (32 - clI ln))
    have h3 := Nat.mod_lt z hp
    rw [low, Nat.add_zero] at h1
    generalize 2 ^ (32 - clI ln) = P at *
    generalize ad / P = A at *
    generalize z / P = Z at *
    generalize z % P = zr at *
    constructor
    · rintro ⟨a1, a2⟩
      have b1 : P * A < P * (Z + 1) := by rw [Nat.mul_add, Nat.mul_one]; omega
      have b2 : P * Z < P * (A + 1) := by rw [Nat.mul_add, Nat.mul_one]; omega
      have c1 := Nat.lt_of_mul_lt_mul_left b1
      have c2 := Nat.lt_of_mul_lt_mul_left b2
      omega
    · intro e
      subst e
      omega
  rw [div]
  constructor
  · intro h i hi hm
    rw [hn, Nat.testBit_two_pow_sub_one] at hm
    have hge : 32 - clI ln ≤ i := by simpa using hm
    have e1 : z.testBit i = (z / 2 ^ (32 - clI ln)).testBit (i - (32 - clI ln)) := by rw [Nat.testBit_div_two_pow]; congr 1; omega
    have e2 : ad.testBit i = (ad / 2 ^ (32 - clI ln)).testBit (i - (32 - clI ln)) := by rw [Nat.testBit_div_two_pow]; congr 1; omega
    rw [e1, e2, h]
  · intro h
    apply Nat.eq_of_testBit_eq
    intro i
    rw [Nat.testBit_div_two_pow, Nat.testBit_div_two_pow]
    by_cases hi : i + (32 - clI ln) < 32
    · exact h _ hi (by rw [hn, Nat.testBit_two_pow_sub_one]; simp)
    · have hpw : 4294967296 ≤ 2 ^ (i + (32 - clI ln)) := by
        have : 2 ^ 32 ≤ 2 ^ (i + (32 - clI ln)) := Nat.pow_le_pow_right (by omega) (by omega)
        omega
      rw [Nat.testBit_lt_two_pow (by omega), Nat.testBit_lt_two_pow (by omega)]

/-- The set of a prefix, as a range. -/
theorem pfx_range {k : Nat} {nx : Bool} (hk : k < 2) {ad : Nat} {ln : Int} (had : ad < 4294967296) (hv : pvB ad ln = true) (a : Nat → Bool) : wiF k nx ad (ntN (mkN (clI ln))) 32 a = rgF k nx ad (lsN ad ln) a := by
  have hf : fw k = 32 := by rcases (show k = 0 ∨ k = 1 by omega) with rfl | rfl <;> rfl
  have hz : fval k nx a < 4294967296 := fval_u32 _ _ _
  unfold rgF
  rw [Bool.eq_iff_iff, decide_eq_true_eq, rg_iff had hv hz]
  show wildB _ _ _ _ = true ↔ _
  rw [wildB_iff]
  have e : ∀ i, i < 32 → (fval k nx a).testBit i = fbit k nx a i := fun i hi => by
    unfold fval
    rw [hf]
    have := bval_testbit (fbit k nx a) 32 i hi
    exact this
  constructor
  · intro h i hi hm; rw [e i hi]; exact h i hi hm
  · intro h i hi hm; rw [← e i hi]; exact h i hi hm

end Go.Proofs.YtohinonkfhkclaaDoor
