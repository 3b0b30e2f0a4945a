/-
  Plain mathematics: prefixes as wildcards and as ranges.
-/
import Derived.Test.YtaldeffpkcbpeaaGreatDoorQ
import Derived.Test.YtaldeffpkcbpeaaGreatDoorRep
import Derived.Test.YtaldeffpkcbpeaaGreatDoorHw6
import Derived.RegionTactic
import Derived.Deep.QuietTactic
import Derived.BigQuiet
import Derived.Deep.RegionHeld3
namespace Go.Proofs.YtaldeffpkcbpeaaGreatDoor
open Go.RowKit

def depB (M : Mgr) (V : List Nat) (v : Nat) : Bool := V.any fun f => (M.nd f).1 == (v : Int)
def depRow (M : Mgr) (V : List Nat) : List Value := (List.range M.n).map fun v => .bool (depB M V v)
theorem depRow_len (M : Mgr) (V : List Nat) : (depRow M V).length = M.n := by simp [depRow]
theorem depRow_nil (M : Mgr) : depRow M [] = List.replicate M.n (.bool false) := by
  apply List.ext_getElem?
  intro j
  simp only [depRow, List.getElem?_map, List.getElem?_replicate]
  by_cases hj : j < M.n
  · simp [hj, depB]
  · rw [if_neg hj, List.getElem?_eq_none (by simp; omega)]; rfl
theorem depRow_snoc (M : Mgr) (V : List Nat) (f v : Nat) (hv : (M.nd f).1 = (v : Int)) : (depRow M V).set v (.bool true) = depRow M (V ++ [f]) := by
  apply List.ext_getElem?
  intro j
  rw [List.getElem?_set]
  by_cases hj : j < M.n
  · by_cases e : v = j
    · subst e
      simp [depRow, hj, depB, hv]
    · rw [if_neg e]
      have e2 : ((M.nd f).1 == (j : Int)) = false := by simp; omega
      simp [depRow, hj, depB, e2]
  · have h1 : (depRow M V)[j]? = none := List.getElem?_eq_none (by rw [depRow_len]; omega)
    have h2 : (depRow M (V ++ [f]))[j]? = none := List.getElem?_eq_none (by rw [depRow_len]; omega)
    rw [h1, h2]
    split
    · rw [if_neg (by rw [depRow_len]; omega)]
    · rfl

/-- The state while 'Support' walks. -/
structure SupJ (w : World) (p : Nat) (M : Mgr) (L : Lay) (Bp Bd g : Nat) (x : World) (V : List Nat) : Prop where
  rep : Rep x p M L
  kp : Kp No w x
  bp : x.heap[Bp]? = some (.cells #[ptr p] 48 (0, 0))
  bd : x.heap[Bd]? = some (.cells #[.slice (some ⟨g, 0, none⟩) M.n M.n] 58 (0, 0))
  row : x.ownsRow w.heap.size 4 1 (.slice (some ⟨g, 0, none⟩) M.n M.n) M.n (depRow M V)

namespace Mgr
def supp (M : Mgr) (f : Nat) : List Nat := (List.range M.n).filter fun v => depB M (M.nodesOf f) v
def supM (M : Mgr) (f : Int) : List Nat := if M.valid f = true then M.supp f.toNat else []

theorem mem_supp {M : Mgr} {f v : Nat} : v ∈ M.supp f ↔ v < M.n ∧ ∃ g, g ∈ M.nodesOf f ∧ (M.nd g).1 = (v : Int) := by
  unfold supp depB
  rw [List.mem_filter, List.mem_range, List.any_eq_true]
  constructor
  · rintro ⟨h1, g, h2, h3⟩; exact ⟨h1, g, h2, by simpa using h3⟩
  · rintro ⟨h1, g, h2, h3⟩; exact ⟨h1, g, h2, by simpa using h3⟩

theorem indep_reach {M : Mgr} (h : M.WF) (v : Nat) (x : Bool) : ∀ (k f : Nat), M.stored f → M.n - M.depth f < k → (∀ g, M.Reach k f g → (M.nd g).1 ≠ (v : Int)) → ∀ a, M.sem f (upd a v x) = M.sem f a
  | 0, f, _, hk, _, _ => by omega
  | k + 1, f, hf, hk, hr, a => by
    by_cases h2 : f < 2
    · rw [sem_const _ _ _ h2, sem_const _ _ _ h2]
    · obtain ⟨v0, _, sl, sh, _, dl, dh⟩ := node_of h hf (by omega)
      have q1 := depth_le h sl
      have q2 := depth_le h sh
      have hne : (M.nd f).1 ≠ (v : Int) := hr f ⟨by omega, .inl rfl⟩
      rw [sem_node h hf (by omega), sem_node h hf (by omega), upd_other _ _ _ _ (by omega),
        indep_reach h v x k _ sl (by omega) (fun g hg => hr g ⟨by omega, .inr (.inl hg)⟩), indep_reach h v x k _ sh (by omega) (fun g hg => hr g ⟨by omega, .inr (.inr hg)⟩)]

/-- The support is what the function depends on. -/
theorem supp_iff {M : Mgr} (h : M.WF) {f : Nat} (hf : M.stored f) (v : Nat) : v ∈ M.supp f ↔ v < M.n ∧ ∃ a, M.sem f (upd a v false) ≠ M.sem f (upd a v true) := by
  rw [mem_supp]
  obtain ⟨_, hm, hst⟩ := nodesOf_spec h hf
  constructor
  · rintro ⟨hv, g, hg, e⟩
    refine ⟨hv, ?_⟩
    obtain ⟨sg, g2⟩ := hst g hg
    obtain ⟨a, ha⟩ := Reach.cof h hf ((hm g).1 hg)
    have hd : M.depth g = M.lev v := by unfold depth; rw [if_neg (by omega), e, Int.toNat_natCast]
    have hmix : ∀ b x, M.mix (M.depth g) a (upd b v x) = upd (M.mix (M.depth g) a b) v x := fun b x => by
      funext u
      unfold mix upd
      by_cases eu : u = v
      · subst eu; rw [if_pos rfl, if_pos rfl, if_neg (by omega)]
      · rw [if_neg eu, if_neg eu]
    apply Classical.byContradiction
    intro hno
    refine not_indep h (fun f g sf sg e => canon h sf sg e) sg g2 (fun b => ?_)
    rw [e, Int.toNat_natCast, ha, ha, hmix, hmix]
    exact Classical.byContradiction fun hne => hno ⟨_, hne⟩
  · rintro ⟨hv, a, ha⟩
    refine ⟨hv, ?_⟩
    apply Classical.byContradiction
    intro hno
    have hr : ∀ g, M.Reach (M.n + 1) f g → (M.nd g).1 ≠ (v : Int) := fun g hg e => hno ⟨g, (hm g).2 hg, e⟩
    exact ha (by rw [indep_reach h v false (M.n + 1) f hf (by omega) hr, indep_reach h v true (M.n + 1) f hf (by omega) hr])
theorem supM_len (M : Mgr) (f : Int) : (M.supM f).length ≤ M.n := by
  unfold supM supp; split
  · exact Nat.le_trans (List.length_filter_le _ _) (by simp)
  · simp
end Mgr

/-- What 'Support' and its like leave: a new slice of numbers. -/
def NatsPost (w : World) (l : List Nat) (e : Ending) (w' : World) : Prop := ∃ v, e = .returned v ∧ w'.ownsRow w.heap.size 3 1 v l.length (l.map natV) ∧ Kp No w w'

def SupR (w : World) (p : Nat) (M : Mgr) (L : Lay) (Bp Bd g : Nat) (V : List Nat) (gk : Nat) (s6 s26 : Value) (x : World) : Prop :=
  ∃ k v, k + gk = M.n ∧ s26 = .int .i64 (k : Int) ∧ v = s6 ∧ SupJ w p M L Bp Bd g x V ∧ x.ownsRow w.heap.size 3 1 v ((List.range k).filter fun u => depB M V u).length (((List.range k).filter fun u => depB M V u).map natV)

end Go.Proofs.YtaldeffpkcbpeaaGreatDoor

namespace Go.Proofs.YtaldeffpkcbpeaaGreatDoor
open Go.RowKit

theorem eq_of_bits {a b : Nat} (ha : a < 4294967296) (hb : b < 4294967296) (h : ∀ i, i < 32 → a.testBit i = b.testBit i) : a = b := by
  apply Nat.eq_of_testBit_eq
  intro i
  by_cases hi : i < 32
  · exact h i hi
  · have hp : 4294967296 ≤ 2 ^ i := by
      have : 2 ^ 32 ≤ 2 ^ i := Nat.pow_le_pow_right (by omega) (by omega)
      omega
    rw [Nat.testBit_lt_two_pow (by omega), Nat.testBit_lt_two_pow (by omega)]

/-- 'a &^ m'. -/
def andn (a m : Nat) : Nat := (BitVec.ofNat 32 a &&& ~~~ BitVec.ofNat 32 m).toNat
theorem andn_lt (a m : Nat) : andn a m < 4294967296 := (BitVec.ofNat 32 a &&& ~~~ BitVec.ofNat 32 m).isLt
theorem andn_bit (a m : Nat) {i : Nat} (hi : i < 32) : (andn a m).testBit i = (a.testBit i && !m.testBit i) := by
  unfold andn
  rw [BitVec.testBit_toNat, BitVec.getLsbD_and, BitVec.getLsbD_not, BitVec.getLsbD_ofNat, BitVec.getLsbD_ofNat]
  simp [hi]
theorem bits_andn (a m : Nat) : bits BinOp.andNot IntKind.u32 (a : Int) (m : Int) = (andn a m : Int) := by
  unfold bits andn
  simp only [BitVec.ofInt_natCast]
  rw [IntKind.wrap_u32]
  have := andn_lt a m
  unfold andn at this
  show ((BitVec.ofNat 32 a &&& ~~~ BitVec.ofNat 32 m).toNat : Int) % 4294967296 = _
  omega

/-- Which packets match. -/
theorem wild_enc (dn : Nat → Bool) (p q : Pkt) {k : Nat} (hk : k < 5) (nx : Bool) (ad ma : Nat) : wiF k nx ad ma (fw k) (asg (gL (encF dn p q))) = true ↔ ∀ i, i < fw k → ma.testBit i = false → ((if nx then q else p).f k).testBit i = ad.testBit i := by
  show wildB _ _ _ _ = true ↔ _
  rw [wildB_iff]
  have e : ∀ i, i < fw k → fbit k nx (asg (gL (encF dn p q))) i = ((if nx then q else p).f k).testBit i := fun i hi => by
    unfold fbit
    rw [gL_at _ (fvar_lt hk (by omega) nx)]
    unfold fvar
    rw [enc_bit, Pkt.bit_at _ hk (by omega)]
    congr 1
    omega
  constructor
  · intro h i hi hm; rw [← e i hi]; exact h i hi hm
  · intro h i hi hm; rw [e i hi]; exact h i hi hm

end Go.Proofs.YtaldeffpkcbpeaaGreatDoor

namespace Go.Proofs.YtaldeffpkcbpeaaGreatDoor
open Go.RowKit

def clI (n : Int) : Nat := if n < 0 then 0 else if 32 < n then 32 else n.toNat
theorem clI_le (n : Int) : clI n ≤ 32 := by unfold clI; split; omega; split <;> omega
theorem clI_in {n : Int} (h0 : 0 ≤ n) (h1 : n ≤ 32) : (clI n : Int) = n := by unfold clI; rw [if_neg (by omega), if_neg (by omega)]; omega

set_option maxRecDepth 100000 in
theorem clamp_ok (n : Int) (w : World) : Calls Tryz.prog 97 #[.int .i64 n] w fun e w' => e = .returned (.int .i64 (clI n : Int)) ∧ w = w' := by
  by_cases h0 : n < 0
  · have e : (clI n : Int) = 0 := by unfold clI; rw [if_pos h0]; rfl
    rw [e]
    have h1 : ¬ (32 : Int) < n := by omega
    go_enter Tryz.func97, Tryz.ntmps97
    go_wp2_with fail
    go_ret
    exact ⟨rfl, rfl⟩
  · by_cases h1 : (32 : Int) < n
    · have e : (clI n : Int) = 32 := by unfold clI; rw [if_neg h0, if_pos h1]; rfl
      rw [e]
      go_enter Tryz.func97, Tryz.ntmps97
      go_wp2_with fail
      go_ret
      exact ⟨rfl, rfl⟩
    · rw [clI_in (by omega) (by omega)]
      have h2 : (0 : Int) ≤ n := by omega
      by_cases h3 : n = 0
      · subst h3
        go_enter Tryz.func97, Tryz.ntmps97
        go_wp2_with fail
        go_ret
        exact ⟨rfl, rfl⟩
      · have h4 : (0 : Int) < n := by omega
        go_enter Tryz.func97, Tryz.ntmps97
        go_wp2_with fail
        go_ret
        exact ⟨rfl, rfl⟩

/-- The number whose first c bits are 1. -/
def mkN (c : Nat) : Nat := (2 ^ c - 1) * 2 ^ (32 - c)
theorem mkN_val {c : Nat} (hc : c ≤ 32) : mkN c + 2 ^ (32 - c) = 4294967296 := by
  unfold mkN
  have h : (2 : Nat) ^ c * 2 ^ (32 - c) = 4294967296 := by rw [← Nat.pow_add, show c + (32 - c) = 32 by omega]
  have hp : 0 < 2 ^ c := Nat.pow_pos (by omega)
  rw [Nat.sub_mul, h, Nat.one_mul]
  have : 2 ^ (32 - c) ≤ 4294967296 := by rw [← h]; exact Nat.le_mul_of_pos_left _ hp
  omega
theorem mkN_lt {c : Nat} (hc : c ≤ 32) : mkN c < 4294967296 := by
  have := mkN_val hc
  have : 0 < 2 ^ (32 - c) := Nat.pow_pos (by omega)
  omega

set_option maxRecDepth 100000 in
theorem Mask_ok (n : Int) (w : World) : Calls Tryz.prog 96 #[.int .i64 n] w fun e w' => e = .returned (.int .u32 (mkN (clI n) : Int)) ∧ w = w' := by
  have C := Lib.hid (clamp_ok n w)
  have hc := clI_le n
  have hv : ((4294967295 : Int) * 2 ^ (32 - clI n)) % 4294967296 = (mkN (clI n) : Int) := by
    have h1 := mkN_val hc
    have h2 : (0 : Nat) < 2 ^ (32 - clI n) := Nat.pow_pos (by omega)
    have h3 : ((2 : Int) ^ (32 - clI n)) = ((2 ^ (32 - clI n) : Nat) : Int) := by simp
    rw [h3]
    generalize 2 ^ (32 - clI n) = z at *
    have : (4294967295 : Int) * (z : Int) = (mkN (clI n) : Int) + 4294967296 * ((z : Int) - 1) := by omega
    rw [this, Int.add_mul_emod_self_left]
    have := mkN_lt hc
    omega
  have HV := Lib.hid hv
  clear hv
  generalize mkN (clI n) = m at *
  generalize clI n = cl at *
  go_enter Tryz.func96, Tryz.ntmps96
  go_wp2_with fail
  refine C.out.mono ?_
  rintro e w' ⟨rfl, rfl⟩
  go_wp2_with fail
  go_ret
  exact ⟨by rw [HV.out]; rfl, rfl⟩

def pvB (ad : Nat) (ln : Int) : Bool := decide (0 ≤ ln ∧ ln ≤ 32) && ((andn ad (mkN (clI ln)) : Int) == 0)
set_option maxRecDepth 100000 in
theorem Valid_ok (ad : Nat) (ln : Int) (w : World) : Calls Tryz.prog 70 #[.agg #[.int .u32 (ad : Int), .int .i64 ln]] w fun e w' => e = .returned (.bool (pvB ad ln)) ∧ Kp No w w' := by
  by_cases h0 : 0 ≤ ln
  · by_cases h1 : ln ≤ 32
    · have e : pvB ad ln = ((andn ad (mkN (clI ln)) : Int) == 0) := by unfold pvB; rw [decide_eq_true (And.intro h0 h1), Bool.true_and]
      rw [e]
      have MK := Lib.hid (fun (y : World) => (Mask_ok ln y).mono (fun _ _ h => And.intro h.1 h.2.symm))
      have hb := bits_andn ad (mkN (clI ln))
      generalize mkN (clI ln) = m at *
      generalize andn ad m = an at *
      clear e
      have KA := Lib.hid (Kp.alloc (w := w) (.cells #[.int .u32 (ad : Int), .int .i64 ln] 130))
      have c0 : (w.alloc (.cells #[.int .u32 (ad : Int), .int .i64 ln] 130)).cell? ⟨w.heap.size, 0, none⟩ = some (.int .u32 (ad : Int)) := by rw [cell_of_row _ _ _ _ _ _ (heap_alloc_new _ _)]; rfl
      have c1 : (w.alloc (.cells #[.int .u32 (ad : Int), .int .i64 ln] 130)).cell? ⟨w.heap.size, 1, none⟩ = some (.int .i64 ln) := by rw [cell_of_row _ _ _ _ _ _ (heap_alloc_new _ _)]; rfl
      go_enter Tryz.func70, Tryz.ntmps70
      go_upto_region 1 with (fail)
      generalize w.alloc (.cells #[.int .u32 (ad : Int), .int .i64 ln] 130) = wA at *
      go_quiet ((go_at_call 96; exact Calls.quiet_of_same (MK.out _)))
      go_wp2_with fail
      go_ret
      exact ⟨rfl, KA.out.trans_no (Kp.drewN _)⟩
    · have e : pvB ad ln = false := by unfold pvB; rw [decide_eq_false (fun h => h1 h.2), Bool.false_and]
      rw [e]
      have h1' : decide (ln ≤ 32) = false := decide_eq_false h1
      clear e
      have KA := Lib.hid (Kp.alloc (w := w) (.cells #[.int .u32 (ad : Int), .int .i64 ln] 130))
      have c0 : (w.alloc (.cells #[.int .u32 (ad : Int), .int .i64 ln] 130)).cell? ⟨w.heap.size, 0, none⟩ = some (.int .u32 (ad : Int)) := by rw [cell_of_row _ _ _ _ _ _ (heap_alloc_new _ _)]; rfl
      have c1 : (w.alloc (.cells #[.int .u32 (ad : Int), .int .i64 ln] 130)).cell? ⟨w.heap.size, 1, none⟩ = some (.int .i64 ln) := by rw [cell_of_row _ _ _ _ _ _ (heap_alloc_new _ _)]; rfl
      go_enter Tryz.func70, Tryz.ntmps70
      go_upto_region 1 with (fail)
      generalize w.alloc (.cells #[.int .u32 (ad : Int), .int .i64 ln] 130) = wA at *
      go_quiet (fail)
      go_wp2_with fail
      go_ret
      exact ⟨rfl, KA.out.trans_no (Kp.drewN _)⟩
  · have e : pvB ad ln = false := by unfold pvB; rw [decide_eq_false (fun h => h0 h.1), Bool.false_and]
    rw [e]
    have h0' : decide (0 ≤ ln) = false := decide_eq_false h0
    clear e
    have KA := Lib.hid (Kp.alloc (w := w) (.cells #[.int .u32 (ad : Int), .int .i64 ln] 130))
    have c0 : (w.alloc (.cells #[.int .u32 (ad : Int), .int .i64 ln] 130)).cell? ⟨w.heap.size, 0, none⟩ = some (.int .u32 (ad : Int)) := by rw [cell_of_row _ _ _ _ _ _ (heap_alloc_new _ _)]; rfl
    have c1 : (w.alloc (.cells #[.int .u32 (ad : Int), .int .i64 ln] 130)).cell? ⟨w.heap.size, 1, none⟩ = some (.int .i64 ln) := by rw [cell_of_row _ _ _ _ _ _ (heap_alloc_new _ _)]; rfl
    go_enter Tryz.func70, Tryz.ntmps70
    go_upto_region 1 with (fail)
    generalize w.alloc (.cells #[.int .u32 (ad : Int), .int .i64 ln] 130) = wA at *
    go_quiet (fail)
    go_wp2_with fail
    go_ret
    exact ⟨rfl, KA.out.trans_no (Kp.drewN _)⟩

def ctB (ad : Nat) (ln : Int) (a : Nat) : Bool := (((a &&& mkN (clI ln) : Nat) : Int) == (ad : Int))
set_option maxRecDepth 100000 in
theorem Contains_ok (ad : Nat) (ln : Int) (a : Nat) (ha : a < 4294967296) (w : World) : Calls Tryz.prog 106 #[.agg #[.int .u32 (ad : Int), .int .i64 ln], .int .u32 (a : Int)] w fun e w' => e = .returned (.bool (ctB ad ln a)) ∧ Kp No w w' := by
  have MK := Lib.hid (fun (y : World) => (Mask_ok ln y).mono (fun _ _ h => And.intro h.1 h.2.symm))
  have hb : bits BinOp.and IntKind.u32 (a : Int) (mkN (clI ln) : Int) = ((a &&& mkN (clI ln) : Nat) : Int) := (bits_nat .u32 32 (by decide) (fun n a b => by rw [IntKind.wrap_u32]; omega) a _ ha (mkN_lt (clI_le ln))).1
  unfold ctB
  generalize mkN (clI ln) = m at *
  generalize a &&& m = am at *
  have KA := Lib.hid (Kp.alloc (w := w) (.cells #[.int .u32 (ad : Int), .int .i64 ln] 130))
  have c0 : (w.alloc (.cells #[.int .u32 (ad : Int), .int .i64 ln] 130)).cell? ⟨w.heap.size, 0, none⟩ = some (.int .u32 (ad : Int)) := by rw [cell_of_row _ _ _ _ _ _ (heap_alloc_new _ _)]; rfl
  have c1 : (w.alloc (.cells #[.int .u32 (ad : Int), .int .i64 ln] 130)).cell? ⟨w.heap.size, 1, none⟩ = some (.int .i64 ln) := by rw [cell_of_row _ _ _ _ _ _ (heap_alloc_new _ _)]; rfl
  go_enter Tryz.func106, Tryz.ntmps106
  go_upto_region 1 with (fail)
  generalize w.alloc (.cells #[.int .u32 (ad : Int), .int .i64 ln] 130) = wA at *
  go_quiet ((go_at_call 96; exact Calls.quiet_of_same (MK.out _)))
  go_wp2_with fail
  go_ret
  exact ⟨rfl, KA.out.trans_no (Kp.drewN _)⟩

/-! ### 'Prefix' of the package header -/
end Go.Proofs.YtaldeffpkcbpeaaGreatDoor

namespace Go.Proofs.YtaldeffpkcbpeaaGreatDoor
open Go.RowKit

theorem bval_testbit (g : Nat → Bool) : ∀ k i, i < k → (bval g k).testBit i = g i
  | 0, _, h => by omega
  | k + 1, i, h => by
    have hb := bval_lt g k
    by_cases e : i = k
    · subst e
      simp only [bval]
      cases hg : g i
      · simp only [Bool.false_eq_true, if_false, Nat.add_zero]; exact Nat.testBit_lt_two_pow hb
      · simp only [if_true]
        rw [Nat.add_comm, Nat.testBit_two_pow_add_eq, Nat.testBit_lt_two_pow hb]; rfl
    · have ih := bval_testbit g k i (by omega)
      simp only [bval]
      cases hg : g k
      · simp only [Bool.false_eq_true, if_false, Nat.add_zero]; exact ih
      · simp only [if_true]
        rw [Nat.add_comm, Nat.testBit_two_pow_add_gt (by omega), ih]

end Go.Proofs.YtaldeffpkcbpeaaGreatDoor
