/-
 Walks: 'Same' of the package header.
-/
import Derived.Test.YtdgnbbmgcgfibaaGreatDoorHpm
import Derived.Test.YtdgnbbmgcgfibaaGreatDoorRm
import Derived.Test.YtdgnbbmgcgfibaaGreatDoorHw6
namespace Go.Proofs.YtdgnbbmgcgfibaaGreatDoor
open Go.RowKit

def ptB (lo hi : Int) : Bool := decide (0 ≤ lo) && (decide (lo ≤ hi) && decide (hi ≤ 65535))

set_option maxRecDepth 100000 in
theorem validPorts_ok (lo hi : Int) (w : World) : Calls Tryz.prog 24 #[.agg #[.int .i64 lo, .int .i64 hi]] w fun e w' => e = .returned (.bool (ptB lo hi)) ∧ Kp No w w' := by
 unfold ptB
 by_cases h0 : 0 ≤ lo
 case neg =>
  rw [decide_eq_false h0, Bool.false_and]
  go_enter Tryz.func24, Tryz.ntmps24
  go_wp2_with fail
  go_ret
  exact ⟨rfl, Kp.alloc _⟩
 rw [decide_eq_true h0, Bool.true_and]
 by_cases h1 : lo ≤ hi
 case neg =>
  rw [decide_eq_false h1, Bool.false_and]
  go_enter Tryz.func24, Tryz.ntmps24
  go_wp2_with fail
  go_ret
  exact ⟨rfl, Kp.alloc _⟩
 rw [decide_eq_true h1, Bool.true_and]
 by_cases h2 : hi ≤ 65535
 case neg =>
  rw [decide_eq_false h2]
  go_enter Tryz.func24, Tryz.ntmps24
  go_wp2_with fail
  go_ret
  exact ⟨rfl, Kp.alloc _⟩
 rw [decide_eq_true h2]
 go_enter Tryz.func24, Tryz.ntmps24
 go_wp2_with fail
 go_ret
 exact ⟨rfl, Kp.alloc _⟩

structure Mt where
 sa : Nat
 sl : Int
 da : Nat
 dl : Int
 pr : Int
 s0 : Int
 s1 : Int
 d0 : Int
 d1 : Int
def mtV (m : Mt) : Value := .agg #[.int .u32 (m.sa : Int), .int .i64 m.sl, .int .u32 (m.da : Int), .int .i64 m.dl, .int .i64 m.pr, .int .i64 m.s0, .int .i64 m.s1, .int .i64 m.d0, .int .i64 m.d1]
structure Mt.in32 (m : Mt) : Prop where
 h0 : m.sa < 4294967296
 h1 : m.da < 4294967296
 pr : -9223372036854775808 ≤ m.pr ∧ m.pr ≤ 9223372036854775807
 s0 : -9223372036854775808 ≤ m.s0 ∧ m.s0 ≤ 9223372036854775807
 s1 : -9223372036854775808 ≤ m.s1 ∧ m.s1 ≤ 9223372036854775807
 d0 : -9223372036854775808 ≤ m.d0 ∧ m.d0 ≤ 9223372036854775807
 d1 : -9223372036854775808 ≤ m.d1 ∧ m.d1 ≤ 9223372036854775807
def MtAt (x : World) (b : Nat) (m : Mt) : Prop := x.heap[b]? = some (.cells #[.int .u32 (m.sa : Int), .int .i64 m.sl, .int .u32 (m.da : Int), .int .i64 m.dl, .int .i64 m.pr, .int .i64 m.s0, .int .i64 m.s1, .int .i64 m.d0, .int .i64 m.d1] 48 (0, 0))
structure MtC (x : World) (b : Nat) (m : Mt) : Prop where
 c0 : x.cell? ⟨b, 0, none⟩ = some (.int .u32 (m.sa : Int))
 c1 : x.cell? ⟨b, 1, none⟩ = some (.int .i64 m.sl)
 c2 : x.cell? ⟨b, 2, none⟩ = some (.int .u32 (m.da : Int))
 c3 : x.cell? ⟨b, 3, none⟩ = some (.int .i64 m.dl)
 c4 : x.cell? ⟨b, 4, none⟩ = some (.int .i64 m.pr)
 c5 : x.cell? ⟨b, 5, none⟩ = some (.int .i64 m.s0)
 c6 : x.cell? ⟨b, 6, none⟩ = some (.int .i64 m.s1)
 c7 : x.cell? ⟨b, 7, none⟩ = some (.int .i64 m.d0)
 c8 : x.cell? ⟨b, 8, none⟩ = some (.int .i64 m.d1)
section
variable {x y : World} {b : Nat} {m : Mt}
theorem MtAt.c (h : MtAt x b m) : MtC x b m := by
 constructor <;> (rw [cell_of_row _ _ _ _ _ _ h]; rfl)
theorem MtAt.lt (h : MtAt x b m) : b < x.heap.size := heap_lt h
theorem MtAt.kp {A : Nat → Prop} (h : MtAt x b m) (k : Kp A x y) (hn : ¬ A b) : MtAt y b m := by unfold MtAt; rw [k.block _ h.lt hn]; exact h
theorem MtAt.no (h : MtAt x b m) (k : Kp No x y) : MtAt y b m := h.kp k (fun x => x)
theorem MtAt.new (w : World) (m : Mt) : MtAt (w.alloc (.cells #[.int .u32 (m.sa : Int), .int .i64 m.sl, .int .u32 (m.da : Int), .int .i64 m.dl, .int .i64 m.pr, .int .i64 m.s0, .int .i64 m.s1, .int .i64 m.d0, .int .i64 m.d1] 48)) w.heap.size m := heap_alloc_new _ _
end

def mtB (m : Mt) : Bool := pvB m.sa m.sl && (pvB m.da m.dl && (decide (-1 ≤ m.pr) && (decide (m.pr ≤ 255) && (ptB m.s0 m.s1 && ptB m.d0 m.d1))))

set_option maxRecDepth 100000 in
set_option maxHeartbeats 2000000 in
theorem ValidMatch_ok (m : Mt) (w : World) : Calls Tryz.prog 7 #[mtV m] w fun e w' => e = .returned (.bool (mtB m)) ∧ Kp No w w' := by
 have VS := Lib.hid (fun (y : World) => Valid_ok m.sa m.sl y)
 have VD := Lib.hid (fun (y : World) => Valid_ok m.da m.dl y)
 have PS := Lib.hid (fun (y : World) => validPorts_ok m.s0 m.s1 y)
 have PD := Lib.hid (fun (y : World) => validPorts_ok m.d0 m.d1 y)
 have M0 := Lib.hid (MtAt.new w m)
 have K0 := Lib.hid (Kp.alloc (w := w) (.cells #[.int .u32 (m.sa : Int), .int .i64 m.sl, .int .u32 (m.da : Int), .int .i64 m.dl, .int .i64 m.pr, .int .i64 m.s0, .int .i64 m.s1, .int .i64 m.d0, .int .i64 m.d1] 48))
 unfold mtB
 cases h1 : pvB m.sa m.sl
 ·rw [h1] at VS
  rw [Bool.false_and]
  clear h1
  unfold mtV
  go_enter Tryz.func7, Tryz.ntmps7
  go_wp2_with fail
  refine (VS.out _).mono ?_
  rintro e w1 ⟨rfl, k1⟩
  have M1 := Lib.hid (M0.out.no k1)
  have K1 := Lib.hid (K0.out.trans_no k1)
  clear k1
  go_wp2_with fail
  go_ret
  exact ⟨rfl, K1.out⟩
 rw [h1] at VS
 rw [Bool.true_and]
 clear h1
 cases h2 : pvB m.da m.dl
 ·rw [h2] at VD
  rw [Bool.false_and]
  clear h2
  unfold mtV
  go_enter Tryz.func7, Tryz.ntmps7
  go_wp2_with fail
  refine (VS.out _).mono ?_
  rintro e w1 ⟨rfl, k1⟩
  have M1 := Lib.hid (M0.out.no k1)
  have K1 := Lib.hid (K0.out.trans_no k1)
  clear k1
  obtain ⟨c0, c1, c2, c3, c4, c5, c6, c7, c8⟩ := M1.out.c
  go_wp2_with fail
  refine (VD.out _).mono ?_
  rintro e w2 ⟨rfl, k2⟩
  have M2 := Lib.hid (M1.out.no k2)
  have K2 := Lib.hid (K1.out.trans_no k2)
  clear k2
  clear c0 c1 c2 c3 c4 c5 c6 c7 c8
  obtain ⟨c0, c1, c2, c3, c4, c5, c6, c7, c8⟩ := M2.out.c
  go_wp2_with fail
  go_ret
  exact ⟨rfl, K2.out⟩
 rw [h2] at VD
 rw [Bool.true_and]
 clear h2
 by_cases h3 : -1 ≤ m.pr
 case neg =>
  rw [decide_eq_false h3, Bool.false_and]
  unfold mtV
  go_enter Tryz.func7, Tryz.ntmps7
  go_wp2_with fail
  refine (VS.out _).mono ?_
  rintro e w1 ⟨rfl, k1⟩
  have M1 := Lib.hid (M0.out.no k1)
  have K1 := Lib.hid (K0.out.trans_no k1)
  clear k1
  obtain ⟨c0, c1, c2, c3, c4, c5, c6, c7, c8⟩ := M1.out.c
  go_wp2_with fail
  refine (VD.out _).mono ?_
  rintro e w2 ⟨rfl, k2⟩
  have M2 := Lib.hid (M1.out.no k2)
  have K2 := Lib.hid (K1.out.trans_no k2)
  clear k2
  clear c0 c1 c2 c3 c4 c5 c6 c7 c8
  obtain ⟨c0, c1, c2, c3, c4, c5, c6, c7, c8⟩ := M2.out.c
  go_wp2_with fail
  go_ret
  exact ⟨rfl, K2.out⟩
 rw [decide_eq_true h3, Bool.true_and]
 by_cases h4 : m.pr ≤ 255
 case neg =>
  rw [decide_eq_false h4, Bool.false_and]
  unfold mtV
  go_enter Tryz.func7, Tryz.ntmps7
  go_wp2_with fail
  refine (VS.out _).mono ?_
  rintro e w1 ⟨rfl, k1⟩
  have M1 := Lib.hid (M0.out.no k1)
  have K1 := Lib.hid (K0.out.trans_no k1)
  clear k1
  obtain ⟨c0, c1, c2, c3, c4, c5, c6, c7, c8⟩ := M1.out.c
  go_wp2_with fail
  refine (VD.out _).mono ?_
  rintro e w2 ⟨rfl, k2⟩
  have M2 := Lib.hid (M1.out.no k2)
  have K2 := Lib.hid (K1.out.trans_no k2)
  clear k2
  clear c0 c1 c2 c3 c4 c5 c6 c7 c8
  obtain ⟨c0, c1, c2, c3, c4, c5, c6, c7, c8⟩ := M2.out.c
  go_wp2_with fail
  go_ret
  exact ⟨rfl, K2.out⟩
 rw [decide_eq_true h4, Bool.true_and]
 cases h5 : ptB m.s0 m.s1
 ·rw [h5] at PS
  rw [Bool.false_and]
  clear h5
  unfold mtV
  go_enter Tryz.func7, Tryz.ntmps7
  go_wp2_with fail
  refine (VS.out _).mono ?_
  rintro e w1 ⟨rfl, k1⟩
  have M1 := Lib.hid (M0.out.no k1)
  have K1 := Lib.hid (K0.out.trans_no k1)
  clear k1
  obtain ⟨c0, c1, c2, c3, c4, c5, c6, c7, c8⟩ := M1.out.c
  go_wp2_with fail
  refine (VD.out _).mono ?_
  rintro e w2 ⟨rfl, k2⟩
  have M2 := Lib.hid (M1.out.no k2)
  have K2 := Lib.hid (K1.out.trans_no k2)
  clear k2
  clear c0 c1 c2 c3 c4 c5 c6 c7 c8
  obtain ⟨c0, c1, c2, c3, c4, c5, c6, c7, c8⟩ := M2.out.c
  go_wp2_with fail
  refine (PS.out _).mono ?_
  rintro e w3 ⟨rfl, k3⟩
  have M3 := Lib.hid (M2.out.no k3)
  have K3 := Lib.hid (K2.out.trans_no k3)
  clear k3
  clear c0 c1 c2 c3 c4 c5 c6 c7 c8
  go_wp2_with fail
  go_ret
  exact ⟨rfl, K3.out⟩
 rw [h5] at PS
 rw [Bool.true_and]
 clear h5
 generalize ptB m.d0 m.d1 = b6 at *
 unfold mtV
 go_enter Tryz.func7, Tryz.ntmps7
 go_wp2_with fail
 refine (VS.out _).mono ?_
 rintro e w1 ⟨rfl, k1⟩
 have M1 := Lib.hid (M0.out.no k1)
 have K1 := Lib.hid (K0.out.trans_no k1)
 clear k1
 obtain ⟨c0, c1, c2, c3, c4, c5, c6, c7, c8⟩ := M1.out.c
 go_wp2_with fail
 refine (VD.out _).mono ?_
 rintro e w2 ⟨rfl, k2⟩
 have M2 := Lib.hid (M1.out.no k2)
 have K2 := Lib.hid (K1.out.trans_no k2)
 clear k2
 clear c0 c1 c2 c3 c4 c5 c6 c7 c8
 obtain ⟨c0, c1, c2, c3, c4, c5, c6, c7, c8⟩ := M2.out.c
 go_wp2_with fail
 refine (PS.out _).mono ?_
 rintro e w3 ⟨rfl, k3⟩
 have M3 := Lib.hid (M2.out.no k3)
 have K3 := Lib.hid (K2.out.trans_no k3)
 clear k3
 clear c0 c1 c2 c3 c4 c5 c6 c7 c8
 obtain ⟨c0, c1, c2, c3, c4, c5, c6, c7, c8⟩ := M3.out.c
 go_wp2_with fail
 refine (PD.out _).mono ?_
 rintro e w4 ⟨rfl, k4⟩
 have M4 := Lib.hid (M3.out.no k4)
 have K4 := Lib.hid (K3.out.trans_no k4)
 clear k4
 clear c0 c1 c2 c3 c4 c5 c6 c7 c8
 go_wp2_with fail
 go_ret
 exact ⟨rfl, K4.out⟩

end Go.Proofs.YtdgnbbmgcgfibaaGreatDoor

namespace Go.Proofs.YtdgnbbmgcgfibaaGreatDoor
open Go.RowKit

def mf1 (m : Mt) (nx : Bool) : Bfn := fun a => wiF 0 nx m.sa (ntN (mkN (clI m.sl))) 32 a && wiF 1 nx m.da (ntN (mkN (clI m.dl))) 32 a
def mf2 (m : Mt) (nx : Bool) : Bfn := fun a => mf1 m nx a && rgF 2 nx (u32 m.pr) (u32 m.pr) a
def mfx (m : Mt) (nx : Bool) : Bfn := if 0 ≤ m.pr then mf2 m nx else mf1 m nx
def mf3 (m : Mt) (nx : Bool) : Bfn := fun a => mfx m nx a && rgF 3 nx (u32 m.s0) (u32 m.s1) a
def mtF (m : Mt) (nx : Bool) : Bfn := fun a => mf3 m nx a && rgF 4 nx (u32 m.d0) (u32 m.d1) a

theorem u32_cast (x : Int) : ((u32 x : Nat) : Int) = x % 4294967296 := by unfold u32; omega

section
variable (m : Mt) (nx : Bool)
theorem wiF_rd' (k : Nat) (hk : k < 2) (ad ma : Nat) : Rd (fvar k 0 nx) (fend k) (wiF k nx ad ma 32) := by
 have hf : fw k = 32 := by rcases (show k = 0 ∨ k = 1 by omega) with rfl | rfl <;> rfl
 have := wiF_rd (k := k) (nx := nx) ad ma 32 (by omega)
 rw [show fw k - 32 = 0 by omega] at this
 exact this
theorem mf1_rd : Rd 12 140 (mf1 m nx) := Rd.op (fun x y => x && y) ((wiF_rd' nx 0 (by omega) _ _).mono (by rw [fvar_eq]; show 12 ≤ 12 + 2 * (0 + 0) + _; omega) (by decide)) ((wiF_rd' nx 1 (by omega) _ _).mono (by rw [fvar_eq]; show 12 ≤ 12 + 2 * (32 + 0) + _; omega) (by decide))
theorem mf1_st : PSt 220 (mf1 m nx) 200 :=
 (PSt.and_above (wiF_rd' nx 0 (by omega) _ _) (wiF_rd' nx 1 (by omega) _ _) (by rw [fvar_eq]; show 12 + 2 * (0 + 32) ≤ 12 + 2 * (32 + 0) + _; omega) (by decide) (by decide) (wiF_st (by omega) _ _ 32 (by decide)) (wiF_st (by omega) _ _ 32 (by decide))).mono (by omega)
theorem mf2_rd : Rd 12 156 (mf2 m nx) := Rd.op (fun x y => x && y) ((mf1_rd m nx).mono (by omega) (by omega)) ((rgF_rd (k := 2) (nx := nx) _ _).mono (by rw [fvar_eq]; show 12 ≤ 12 + 2 * (64 + 0) + _; omega) (by decide))
theorem mf2_st : PSt 220 (mf2 m nx) 10300 :=
 (PSt.and_above (mf1_rd m nx) (rgF_rd (k := 2) (nx := nx) _ _) (by rw [fvar_eq]; show 140 ≤ 12 + 2 * (64 + 0) + _; omega) (by decide) (by decide) (mf1_st m nx) (rgF_st (by omega) _ _)).mono (by omega)
theorem mfx_rd : Rd 12 156 (mfx m nx) := by
 unfold mfx; split
 ·exact mf2_rd m nx
 ·exact (mf1_rd m nx).mono (by omega) (by omega)
theorem mfx_st : PSt 220 (mfx m nx) 10300 := by
 unfold mfx; split
 ·exact mf2_st m nx
 ·exact (mf1_st m nx).mono (by omega)
theorem mf3_rd : Rd 12 188 (mf3 m nx) := Rd.op (fun x y => x && y) ((mfx_rd m nx).mono (by omega) (by omega)) ((rgF_rd (k := 3) (nx := nx) _ _).mono (by rw [fvar_eq]; show 12 ≤ 12 + 2 * (72 + 0) + _; omega) (by decide))
theorem mf3_st : PSt 220 (mf3 m nx) 20400 :=
 (PSt.and_above (mfx_rd m nx) (rgF_rd (k := 3) (nx := nx) _ _) (by rw [fvar_eq]; show 156 ≤ 12 + 2 * (72 + 0) + _; omega) (by decide) (by decide) (mfx_st m nx) (rgF_st (by omega) _ _)).mono (by omega)
theorem mtF_st : PSt 220 (mtF m nx) 30500 :=
 (PSt.and_above (mf3_rd m nx) (rgF_rd (k := 4) (nx := nx) _ _) (by rw [fvar_eq]; show 188 ≤ 12 + 2 * (88 + 0) + _; omega) (by decide) (by decide) (mf3_st m nx) (rgF_st (by omega) _ _)).mono (by omega)
end

theorem mtB_true {m : Mt} (h : mtB m = true) : pvB m.sa m.sl = true ∧ pvB m.da m.dl = true ∧ (-1 ≤ m.pr ∧ m.pr ≤ 255) ∧ (0 ≤ m.s0 ∧ m.s0 ≤ m.s1 ∧ m.s1 ≤ 65535) ∧ (0 ≤ m.d0 ∧ m.d0 ≤ m.d1 ∧ m.d1 ≤ 65535) := by
 unfold mtB ptB at h
 simp only [Bool.and_eq_true, decide_eq_true_eq] at h
 exact ⟨h.1, h.2.1, ⟨h.2.2.1, h.2.2.2.1⟩, h.2.2.2.2.1, h.2.2.2.2.2⟩

theorem Range_conv {p c : Nat} {M : Mgr} {L : Lay} {B : List (Int × Bfn)} (k : Nat) (hk : k < 5) (nx : Bool) (lo hi : Int) (h0 : 0 ≤ lo ∧ lo < 4294967296) (h1 : 0 ≤ hi ∧ hi < 4294967296) {w : World} (h : Hf w p L 220 c w M L B) (hc : c ≤ 500000000000) :
  Calls Tryz.prog 31 #[ptr p, .int .i64 (k : Int), .bool nx, .int .u32 lo, .int .u32 hi] w (OpQ p 220 (c + 10000000) L w (rgF k nx (u32 lo) (u32 hi)) B) := by
 have := Range_ok k hk nx (u32 lo) (u32 hi) (u32_lt _) (u32_lt _) h.rep h.qk h.gl h.off hc
 rw [u32_cast, u32_cast, show lo % 4294967296 = lo by omega, show hi % 4294967296 = hi by omega] at this
 exact this

set_option maxRecDepth 100000 in
set_option maxHeartbeats 4000000 in
theorem Match_ok {p c : Nat} {M : Mgr} {L : Lay} {B : List (Int × Bfn)} (m : Mt) (h32 : m.in32) (hm : mtB m = true) (nx : Bool) {w : World} (R : Rep w p M L) (q : Qk 220 c M B) (g : Gl w) (ho : ¬ L.at p 0) (hc : c ≤ 400000000000) :
  Calls Tryz.prog 12 #[ptr p, .bool nx, mtV m] w (OpQ p 220 (c + 100000000) L w (mtF m nx) B) := by
 have VM := Lib.hid (fun (y : World) => ValidMatch_ok m y)
 rw [hm] at VM
 obtain ⟨hvs, hvd, bp, bs, bd⟩ := mtB_true hm
 have M0 := Lib.hid (MtAt.new w m)
 have KA := Lib.hid (Kp.alloc (w := w) (.cells #[.int .u32 (m.sa : Int), .int .i64 m.sl, .int .u32 (m.da : Int), .int .i64 m.dl, .int .i64 m.pr, .int .i64 m.s0, .int .i64 m.s1, .int .i64 m.d0, .int .i64 m.d1] 48))
 have NB : Hid (¬ L.at p w.heap.size) := Lib.hid (fun h => by have := R.lt _ h; omega)
 have H0 : Hid (Hf (w.alloc (.cells #[.int .u32 (m.sa : Int), .int .i64 m.sl, .int .u32 (m.da : Int), .int .i64 m.dl, .int .i64 m.pr, .int .i64 m.s0, .int .i64 m.s1, .int .i64 m.d0, .int .i64 m.d1] 48)) p L 220 c (w.alloc (.cells #[.int .u32 (m.sa : Int), .int .i64 m.sl, .int .u32 (m.da : Int), .int .i64 m.dl, .int .i64 m.pr, .int .i64 m.s0, .int .i64 m.s1, .int .i64 m.d0, .int .i64 m.d1] 48)) M L B) := Lib.hid (Hf.start (R.no (Kp.alloc _)) q (g.no (Kp.alloc _)) ho)
 have PS : Hid (∀ (c : Nat) (M : Mgr) (L : Lay) (B : List (Int × Bfn)) (y : World), Hf y p L 220 c y M L B → c ≤ 500000000000 → Calls Tryz.prog 33 #[ptr p, .int .i64 0, .bool nx, .agg #[.int .u32 (m.sa : Int), .int .i64 m.sl]] y (OpQ p 220 (c + 10000000) L y (wiF 0 nx m.sa (ntN (mkN (clI m.sl))) 32) B)) := Lib.hid (fun c M L B y h hc => Prefix_ok 0 (by omega) nx m.sa m.sl h32.h0 hvs h.rep h.qk h.gl h.off hc)
 have PD : Hid (∀ (c : Nat) (M : Mgr) (L : Lay) (B : List (Int × Bfn)) (y : World), Hf y p L 220 c y M L B → c ≤ 500000000000 → Calls Tryz.prog 33 #[ptr p, .int .i64 1, .bool nx, .agg #[.int .u32 (m.da : Int), .int .i64 m.dl]] y (OpQ p 220 (c + 10000000) L y (wiF 1 nx m.da (ntN (mkN (clI m.dl))) 32) B)) := Lib.hid (fun c M L B y h hc => Prefix_ok 1 (by omega) nx m.da m.dl h32.h1 hvd h.rep h.qk h.gl h.off hc)
 have RP := Lib.hid (fun (c : Nat) (M : Mgr) (L : Lay) (B : List (Int × Bfn)) (y : World) (h : Hf y p L 220 c y M L B) (hc : c ≤ 500000000000) (h0 : 0 ≤ m.pr) => Range_conv 2 (by omega) nx m.pr m.pr (by omega) (by omega) h hc)
 have RS := Lib.hid (fun (c : Nat) (M : Mgr) (L : Lay) (B : List (Int × Bfn)) (y : World) (h : Hf y p L 220 c y M L B) (hc : c ≤ 500000000000) => Range_conv 3 (by omega) nx m.s0 m.s1 (by omega) (by omega) h hc)
 have RD := Lib.hid (fun (c : Nat) (M : Mgr) (L : Lay) (B : List (Int × Bfn)) (y : World) (h : Hf y p L 220 c y M L B) (hc : c ≤ 500000000000) => Range_conv 4 (by omega) nx m.d0 m.d1 (by omega) (by omega) h hc)
 have S1 := Lib.hid (mf1_st m nx)
 have S2 := Lib.hid (mf2_st m nx)
 have S3 := Lib.hid (mf3_st m nx)
 have S4 := Lib.hid (mtF_st m nx)
 have MX : Hid ((0 ≤ m.pr → mfx m nx = mf2 m nx) ∧ (¬ 0 ≤ m.pr → mfx m nx = mf1 m nx)) := Lib.hid ⟨fun h => by unfold mfx; rw [if_pos h], fun h => by unfold mfx; rw [if_neg h]⟩
 have CM : Hid (∀ y, Kp (L.at p) (w.alloc (.cells #[.int .u32 (m.sa : Int), .int .i64 m.sl, .int .u32 (m.da : Int), .int .i64 m.dl, .int .i64 m.pr, .int .i64 m.s0, .int .i64 m.s1, .int .i64 m.d0, .int .i64 m.d1] 48)) y → MtAt y w.heap.size m) := Lib.hid (fun y k => M0.out.kp k NB.out)
 have CK : Hid (∀ y, Kp (L.at p) (w.alloc (.cells #[.int .u32 (m.sa : Int), .int .i64 m.sl, .int .u32 (m.da : Int), .int .i64 m.dl, .int .i64 m.pr, .int .i64 m.s0, .int .i64 m.s1, .int .i64 m.d0, .int .i64 m.d1] 48)) y → y.cell? ⟨w.heap.size, 0, none⟩ = some (.int .u32 (m.sa : Int)) ∧ y.cell? ⟨w.heap.size, 1, none⟩ = some (.int .i64 m.sl) ∧ y.cell? ⟨w.heap.size, 2, none⟩ = some (.int .u32 (m.da : Int)) ∧ y.cell? ⟨w.heap.size, 3, none⟩ = some (.int .i64 m.dl)) := Lib.hid (fun y k => by have t := (CM.out y k).c; exact ⟨t.c0, t.c1, t.c2, t.c3⟩)
 have CC := Lib.hid hc
 obtain ⟨bs0, bs1, bs2⟩ := bs
 obtain ⟨bd0, bd1, bd2⟩ := bd
 obtain ⟨bp0, bp1⟩ := bp
 have bs3 : 0 ≤ m.s1 := by omega
 have bs4 : m.s0 ≤ 65535 := by omega
 have bd3 : 0 ≤ m.d1 := by omega
 have bd4 : m.d0 ≤ 65535 := by omega
 unfold mtV
 clear R q g ho hm h32 hvs hvd hc
 go_enter Tryz.func12, Tryz.ntmps12
 obtain ⟨c0, c1, c2, c3, c4, c5, c6, c7, c8⟩ := M0.out.c
 go_wp2_with fail
 refine (VM.out _).mono ?_
 rintro e w1 ⟨rfl, k1⟩
 generalize hwA : w.alloc (.cells #[.int .u32 (m.sa : Int), .int .i64 m.sl, .int .u32 (m.da : Int), .int .i64 m.dl, .int .i64 m.pr, .int .i64 m.s0, .int .i64 m.s1, .int .i64 m.d0, .int .i64 m.d1] 48) = wA at *
 have HD := Lib.hid ((H0.out.no k1).no Kp.drew)
 have S0 := Lib.hid (CK.out _ HD.out.sd.kp)
 have PSD := Lib.hid (PS.out _ _ _ _ _ HD.out.rebase (by have := CC.out; omega))
 clear k1 c0 c1 c2 c3 c4 c5 c6 c7 c8
 go_upto_region 3 with (fail)
 go_region_held3 (fun y => y.cell? ⟨w.heap.size, 0, none⟩ = some (.int .u32 (m.sa : Int)) ∧ y.cell? ⟨w.heap.size, 1, none⟩ = some (.int .i64 m.sl) ∧ y.cell? ⟨w.heap.size, 2, none⟩ = some (.int .u32 (m.da : Int)) ∧ y.cell? ⟨w.heap.size, 3, none⟩ = some (.int .i64 m.dl)) (first | exact S0.out | exact SA.out | exact SB.out | exact SC.out)
  (first | (go_at_call 33; (first | ((with_reducible refine PDA.out.mono ?_); intro e wb hb; obtain ⟨r2, M2, L2, rfl, _, f2⟩ := HA.out.step hb; have HB := Lib.hid f2; have SB := Lib.hid (CK.out _ f2.sd.kp); have AN := Lib.hid (AndQ f2.rep f2.qk (.tail _ (.head _)) (.head _) S1.out (by have := CC.out; omega)); clear hb f2) | ((with_reducible refine PSD.out.mono ?_); intro e wa ha; obtain ⟨r1, M1, L1, rfl, _, f1⟩ := HD.out.step ha; have HA := Lib.hid f1; have SA := Lib.hid (CK.out _ f1.sd.kp); have PDA := Lib.hid (PD.out _ _ _ _ _ f1.rebase (by have := CC.out; omega)); clear ha f1))) | (go_at_call 17; (with_reducible refine AN.out.mono ?_); intro e wc hcc; obtain ⟨r3, M3, L3, rfl, _, f3⟩ := HB.out.step hcc; have HC := Lib.hid f3; have SC := Lib.hid (CK.out _ f3.sd.kp); clear hcc f3))
 all_goals
  clear S0 SA SB SC PSD PDA AN HA HB HD PS PD
  have H3 : Hid (Hf wA p L 220 (c + 30000000) wc M3 L3 ((r3, mf1 m nx) :: B)) := Lib.hid ((HC.out.sub (B' := (r3, _) :: B) (fun x hx => by
   rcases List.mem_cons.1 hx with rfl | hx
   ·exact .head _
   ·exact .tail _ (.tail _ (.tail _ hx)))).mono (by omega))
  clear HC
  obtain ⟨c0, c1, c2, c3, c4, c5, c6, c7, c8⟩ := (CM.out _ H3.out.sd.kp).c
  by_cases hpr : 0 ≤ m.pr
  ·have MXE := Lib.hid (MX.out.1 hpr)
   go_wp2_with fail
   refine (RP.out _ _ _ _ _ H3.out.rebase (by have := CC.out; omega) hpr).mono ?_
   intro e w4 h4
   obtain ⟨r4, M4, L4, rfl, _, f4⟩ := H3.out.step h4
   have H4 := Lib.hid f4
   clear h4 f4 H3 c0 c1 c2 c3 c4 c5 c6 c7 c8
   go_wp2_with fail
   refine (AndQ H4.out.rep H4.out.qk (.tail _ (.head _)) (.head _) S2.out (by have := CC.out; omega)).mono ?_
   intro e w5 h5
   obtain ⟨r5, M5, L5, rfl, _, f5⟩ := H4.out.step h5
   have H5 : Hid (Hf wA p L 220 (c + 50000000) w5 M5 L5 ((r5, mfx m nx) :: B)) := Lib.hid (((f5.sub (B' := (r5, _) :: B) (fun x hx => by
    rcases List.mem_cons.1 hx with rfl | hx
    ·exact .head _
    ·exact .tail _ (.tail _ (.tail _ hx)))).mono (by omega)).cong (G := mfx m nx) (fun a => by rw [MXE.out]; rfl))
   clear h5 f5 H4
   obtain ⟨c0, c1, c2, c3, c4, c5, c6, c7, c8⟩ := (CM.out _ H5.out.sd.kp).c
   go_wp2_with fail
   refine (RS.out _ _ _ _ _ H5.out.rebase (by have := CC.out; omega)).mono ?_
   intro e w6 h6
   obtain ⟨r6, M6, L6, rfl, _, f6⟩ := H5.out.step h6
   have H6 := Lib.hid f6
   clear h6 f6 H5 c0 c1 c2 c3 c4 c5 c6 c7 c8
   go_wp2_with fail
   refine (AndQ H6.out.rep H6.out.qk (.tail _ (.head _)) (.head _) S3.out (by have := CC.out; omega)).mono ?_
   intro e w7 h7
   obtain ⟨r7, M7, L7, rfl, _, f7⟩ := H6.out.step h7
   have H7 : Hid (Hf wA p L 220 (c + 70000000) w7 M7 L7 ((r7, mf3 m nx) :: B)) := Lib.hid ((f7.sub (B' := (r7, _) :: B) (fun x hx => by
    rcases List.mem_cons.1 hx with rfl | hx
    ·exact .head _
    ·exact .tail _ (.tail _ (.tail _ hx)))).mono (by omega))
   clear h7 f7 H6
   obtain ⟨c0, c1, c2, c3, c4, c5, c6, c7, c8⟩ := (CM.out _ H7.out.sd.kp).c
   go_wp2_with fail
   refine (RD.out _ _ _ _ _ H7.out.rebase (by have := CC.out; omega)).mono ?_
   intro e w8 h8
   obtain ⟨r8, M8, L8, rfl, _, f8⟩ := H7.out.step h8
   have H8 := Lib.hid f8
   clear h8 f8 H7 c0 c1 c2 c3 c4 c5 c6 c7 c8
   go_wp2_with fail
   refine (AndQ H8.out.rep H8.out.qk (.tail _ (.head _)) (.head _) S4.out (by have := CC.out; omega)).mono ?_
   intro e w9 h9
   obtain ⟨r9, M9, L9, rfl, _, f9⟩ := H8.out.step h9
   have FIN : Hid (OpQ p 220 (c + 100000000) L w (mtF m nx) B (.returned (.int .i64 r9)) w9) := Lib.hid (OpQ.before KA.out (f9.ret (.head _) (fun x hx => .tail _ (.tail _ (.tail _ hx))) (by omega)))
   clear h9 f9 H8
   go_wp2_with fail
   go_ret
   exact FIN.out
  ·have MXE := Lib.hid (MX.out.2 (by omega))
   have H5 : Hid (Hf wA p L 220 (c + 50000000) wc M3 L3 ((r3, mfx m nx) :: B)) := Lib.hid ((H3.out.mono (by omega)).cong (G := mfx m nx) (fun a => by rw [MXE.out]))
   clear H3
   go_wp2_with fail
   refine (RS.out _ _ _ _ _ H5.out.rebase (by have := CC.out; omega)).mono ?_
   intro e w6 h6
   obtain ⟨r6, M6, L6, rfl, _, f6⟩ := H5.out.step h6
   have H6 := Lib.hid f6
   clear h6 f6 H5 c0 c1 c2 c3 c4 c5 c6 c7 c8
   go_wp2_with fail
   refine (AndQ H6.out.rep H6.out.qk (.tail _ (.head _)) (.head _) S3.out (by have := CC.out; omega)).mono ?_
   intro e w7 h7
   obtain ⟨r7, M7, L7, rfl, _, f7⟩ := H6.out.step h7
   have H7 : Hid (Hf wA p L 220 (c + 70000000) w7 M7 L7 ((r7, mf3 m nx) :: B)) := Lib.hid ((f7.sub (B' := (r7, _) :: B) (fun x hx => by
    rcases List.mem_cons.1 hx with rfl | hx
    ·exact .head _
    ·exact .tail _ (.tail _ (.tail _ hx)))).mono (by omega))
   clear h7 f7 H6
   obtain ⟨c0, c1, c2, c3, c4, c5, c6, c7, c8⟩ := (CM.out _ H7.out.sd.kp).c
   go_wp2_with fail
   refine (RD.out _ _ _ _ _ H7.out.rebase (by have := CC.out; omega)).mono ?_
   intro e w8 h8
   obtain ⟨r8, M8, L8, rfl, _, f8⟩ := H7.out.step h8
   have H8 := Lib.hid f8
   clear h8 f8 H7 c0 c1 c2 c3 c4 c5 c6 c7 c8
   go_wp2_with fail
   refine (AndQ H8.out.rep H8.out.qk (.tail _ (.head _)) (.head _) S4.out (by have := CC.out; omega)).mono ?_
   intro e w9 h9
   obtain ⟨r9, M9, L9, rfl, _, f9⟩ := H8.out.step h9
   have FIN : Hid (OpQ p 220 (c + 100000000) L w (mtF m nx) B (.returned (.int .i64 r9)) w9) := Lib.hid (OpQ.before KA.out (f9.ret (.head _) (fun x hx => .tail _ (.tail _ (.tail _ hx))) (by omega)))
   clear h9 f9 H8
   go_wp2_with fail
   go_ret
   exact FIN.out

end Go.Proofs.YtdgnbbmgcgfibaaGreatDoor

namespace Go.Proofs.YtdgnbbmgcgfibaaGreatDoor
open Go.RowKit

/-! ### ranges have at most nine cofactors a level -/
theorem bval_split (g : Nat → Bool) (r : Nat) : ∀ m, bval g (r + m) = bval g r + 2 ^ r * bval (fun i => g (r + i)) m
 | 0 => by simp [bval]
 | m + 1 => by
  rw [show r + (m + 1) = (r + m) + 1 by omega]
  simp only [bval]
  rw [bval_split g r m, Nat.mul_add, Nat.pow_add]
  by_cases h : g (r + m) = true <;> simp [h] <;> omega
def cmp3 (x y : Nat) : Nat := if x < y then 0 else if x = y then 1 else 2
theorem cmp3_lt (x y : Nat) : cmp3 x y < 3 := by unfold cmp3; split; omega; split <;> omega
theorem cmp3_le {r lo V V' w : Nat} (hw : w < 2 ^ r) (h : cmp3 V (lo / 2 ^ r) = cmp3 V' (lo / 2 ^ r)) : (lo ≤ w + 2 ^ r * V ↔ lo ≤ w + 2 ^ r * V') ∧ (w + 2 ^ r * V ≤ lo ↔ w + 2 ^ r * V' ≤ lo) := by
 have hp : 0 < 2 ^ r := Nat.pow_pos (by omega)
 have e := Nat.div_add_mod lo (2 ^ r)
 have hm := Nat.mod_lt lo hp
 have below : ∀ x, x < lo / 2 ^ r → w + 2 ^ r * x < lo := fun x hx => by
  have := Nat.mul_le_mul_left (2 ^ r) (show x + 1 ≤ lo / 2 ^ r from hx)
  rw [Nat.mul_add] at this; omega
 have above : ∀ x, lo / 2 ^ r < x → lo < w + 2 ^ r * x := fun x hx => by
  have := Nat.mul_le_mul_left (2 ^ r) (show lo / 2 ^ r + 1 ≤ x from hx)
  rw [Nat.mul_add] at this; omega
 unfold cmp3 at h
 by_cases h1 : V < lo / 2 ^ r
 ·rw [if_pos h1] at h
  by_cases h2 : V' < lo / 2 ^ r
  ·have := below V h1
   have := below V' h2
   omega
  ·rw [if_neg h2] at h; split at h <;> omega
 ·rw [if_neg h1] at h
  by_cases h2 : V' < lo / 2 ^ r
  ·rw [if_pos h2] at h; split at h <;> omega
  ·rw [if_neg h2] at h
   by_cases h3 : V = lo / 2 ^ r
   ·rw [if_pos h3] at h
    by_cases h4 : V' = lo / 2 ^ r
    ·rw [h3, h4]; exact ⟨Iff.rfl, Iff.rfl⟩
    ·rw [if_neg h4] at h; omega
   ·rw [if_neg h3] at h
    by_cases h4 : V' = lo / 2 ^ r
    ·rw [if_pos h4] at h; omega
    ·have := above V (by omega)
     have := above V' (by omega)
     omega
theorem rgF_nine {k : Nat} {nx : Bool} (hk : k < 5) (lo hi : Nat) : PSt 220 (rgF k nx lo hi) 9 := fun M hn hp => by
 refine ⟨fun d a => 3 * cmp3 (bval (fun i => fbit k nx a ((fw k - (d - fvar k 0 nx + 1) / 2) + i)) (fw k - (fw k - (d - fvar k 0 nx + 1) / 2))) (lo / 2 ^ (fw k - (d - fvar k 0 nx + 1) / 2)) + cmp3 (bval (fun i => fbit k nx a ((fw k - (d - fvar k 0 nx + 1) / 2) + i)) (fw k - (fw k - (d - fvar k 0 nx + 1) / 2))) (hi / 2 ^ (fw k - (d - fvar k 0 nx + 1) / 2)), fun d a => ?_, fun d a a' e b => ?_⟩
 ·have h1 := cmp3_lt (bval (fun i => fbit k nx a ((fw k - (d - fvar k 0 nx + 1) / 2) + i)) (fw k - (fw k - (d - fvar k 0 nx + 1) / 2))) (lo / 2 ^ (fw k - (d - fvar k 0 nx + 1) / 2))
  have h2 := cmp3_lt (bval (fun i => fbit k nx a ((fw k - (d - fvar k 0 nx + 1) / 2) + i)) (fw k - (fw k - (d - fvar k 0 nx + 1) / 2))) (hi / 2 ^ (fw k - (d - fvar k 0 nx + 1) / 2))
  dsimp only; omega
 ·dsimp only at e
  have hr : fw k - (d - fvar k 0 nx + 1) / 2 ≤ fw k := Nat.sub_le _ _
  have hv : ∀ i, i < fw k → (i < fw k - (d - fvar k 0 nx + 1) / 2 ↔ d ≤ fvar k (fw k - 1 - i) nx) := fun i hi => by
   have h1 := fvar_eq k 0 nx
   have h2 := fvar_eq k (fw k - 1 - i) nx
   omega
  generalize fw k - (d - fvar k 0 nx + 1) / 2 = r at *
  have spl : ∀ x : Nat → Bool, fval k nx (M.mix d x b) = bval (fbit k nx b) r + 2 ^ r * bval (fun i => fbit k nx x (r + i)) (fw k - r) := fun x => by
   unfold fval
   have e1 : fw k = r + (fw k - r) := by omega
   conv => lhs; rw [e1]
   rw [bval_split]
   congr 1
   ·refine bval_congr _ (fun i hi => ?_)
    unfold fbit Mgr.mix
    rw [hp _ (by rw [hn]; exact fvar_lt hk (by omega) nx), if_neg (by have := (hv i (by omega)).1 hi; omega)]
   ·congr 1
    refine bval_congr _ (fun i hi => ?_)
    unfold fbit Mgr.mix
    rw [hp _ (by rw [hn]; exact fvar_lt hk (by omega) nx), if_pos (by
     rcases Nat.lt_or_ge (fvar k (fw k - 1 - (r + i)) nx) d with h | h
     ·exact h
     ·have := (hv (r + i) (by omega)).2 h; omega)]
  have hw := bval_lt (fbit k nx b) r
  have c1 := cmp3_lt (bval (fun i => fbit k nx a (r + i)) (fw k - r)) (hi / 2 ^ r)
  have c2 := cmp3_lt (bval (fun i => fbit k nx a' (r + i)) (fw k - r)) (hi / 2 ^ r)
  have k1 := (cmp3_le (lo := lo) hw (show cmp3 (bval (fun i => fbit k nx a (r + i)) (fw k - r)) (lo / 2 ^ r) = cmp3 (bval (fun i => fbit k nx a' (r + i)) (fw k - r)) (lo / 2 ^ r) by omega)).1
  have k2 := (cmp3_le (lo := hi) hw (show cmp3 (bval (fun i => fbit k nx a (r + i)) (fw k - r)) (hi / 2 ^ r) = cmp3 (bval (fun i => fbit k nx a' (r + i)) (fw k - r)) (hi / 2 ^ r) by omega)).2
  unfold rgF
  rw [spl a, spl a', Bool.eq_iff_iff, decide_eq_true_eq, decide_eq_true_eq]
  exact and_congr k1 k2

/-! ### packets -/
def pkF (q : Pkt) (nx : Bool) : Nat → Bfn
 | 0 => fun _ => true
 | j + 1 => fun a => rgF (4 - j) nx (q.f (4 - j)) (q.f (4 - j)) a && pkF q nx j a
section
variable (m : Mt) (nx : Bool)
theorem mfx_few : PSt 220 (mfx m nx) 210 := by
 unfold mfx; split
 ·exact (PSt.and_above (mf1_rd m nx) (rgF_rd (k := 2) (nx := nx) _ _) (by rw [fvar_eq]; show 140 ≤ 12 + 2 * (64 + 0) + _; omega) (by decide) (by decide) (mf1_st m nx) (rgF_nine (by omega) _ _)).mono (by omega)
 ·exact (mf1_st m nx).mono (by omega)
theorem mf3_few : PSt 220 (mf3 m nx) 220 :=
 (PSt.and_above (mfx_rd m nx) (rgF_rd (k := 3) (nx := nx) _ _) (by rw [fvar_eq]; show 156 ≤ 12 + 2 * (72 + 0) + _; omega) (by decide) (by decide) (mfx_few m nx) (rgF_nine (by omega) _ _)).mono (by omega)
theorem mtF_few : PSt 220 (mtF m nx) 230 :=
 (PSt.and_above (mf3_rd m nx) (rgF_rd (k := 4) (nx := nx) _ _) (by rw [fvar_eq]; show 188 ≤ 12 + 2 * (88 + 0) + _; omega) (by decide) (by decide) (mf3_few m nx) (rgF_nine (by omega) _ _)).mono (by omega)
end

/-! ### the exchange -/
def xch (v : Nat) : Nat := if v < 12 then v else if v % 2 = 0 then v + 1 else v - 1
theorem xch_lt {v : Nat} (h : v < 220) : xch v < 220 := by unfold xch; split; omega; split <;> omega
theorem xch_below {v d : Nat} : (xch v < d) ↔ (if 12 < d ∧ d % 2 = 1 then v < d - 1 ∨ v = d else v < d) := by
 unfold xch
 split
 ·split <;> omega
 ·split <;> split <;> omega
theorem rn_eq {t : Nat → Nat} (ht : ∀ v, v < 220 → t v = xch v) {F : Bfn} (hF : Rd 0 220 F) : rnF t F = rnF xch F := funext fun a => hF _ _ (fun v _ hv => by rw [ht v hv])
theorem code2 {s p q p' q' : Nat} (hq : q < s) (hq' : q' < s) (e : p * s + q = p' * s + q') : p = p' ∧ q = q' := by
 have hp : p = p' := by
  rcases Nat.lt_trichotomy p p' with h | h | h
  ·have : (p + 1) * s ≤ p' * s := Nat.mul_le_mul_right _ h
   rw [Nat.add_mul] at this; omega
  ·exact h
  ·have : (p' + 1) * s ≤ p * s := Nat.mul_le_mul_right _ h
   rw [Nat.add_mul] at this; omega
 subst hp
 exact ⟨rfl, by omega⟩
def xcG (t : Nat → Nat) (F : Bfn) (E w : Nat) (c : Nat → Bool) : Bfn := fun b => F fun v => if v < E then c v else if w ≠ 0 ∧ v = E + (w - 1) / 2 then decide (w % 2 = 1) else b (t v)
theorem xch_listed {t : Nat → Nat} (ht : ∀ v, v < 220 → t v = xch v) {F : Bfn} {s : Nat} (hF : Rd 0 220 F) (hs : PSt 220 F s) (M : Mgr) (hn : M.n = 220) (hp : M.Plain) : Listed (M.RenF t F) (1105 * s + 220) := by
 obtain ⟨st, h1, h2⟩ := hs M hn hp
 have mx : ∀ E w c b, xcG t F E w c b = F (M.mix E c (fun v => if w ≠ 0 ∧ v = E + (w - 1) / 2 then decide (w % 2 = 1) else b (t v))) := fun E w c b => hF _ _ (fun v _ hv => by
  unfold Mgr.mix; rw [hp _ (by rw [hn]; exact hv)])
 have l1 : Listed (fun G => ∃ x : Nat × Nat × (Nat → Bool), (x.1 ≤ 220 ∧ x.2.1 < 5) ∧ xcG t F x.1 x.2.1 x.2.2 = G) (1105 * s) := Listed.code (A := Nat × Nat × (Nat → Bool)) (P := fun x => x.1 ≤ 220 ∧ x.2.1 < 5) (fun x => xcG t F x.1 x.2.1 x.2.2) (fun x => (x.1 * 5 + x.2.1) * s + st x.1 x.2.2)
  (fun x ⟨hx, hy⟩ => by
   have a1 := h1 x.1 x.2.2
   have : (x.1 * 5 + x.2.1 + 1) * s ≤ 1105 * s := Nat.mul_le_mul_right _ (by omega)
   rw [Nat.add_mul] at this
   omega)
  (fun x y ⟨hx, hx2⟩ ⟨hy, hy2⟩ e => by
   obtain ⟨e1, e2⟩ := code2 (h1 _ _) (h1 _ _) e
   have eE : x.1 = y.1 := by omega
   have ew : x.2.1 = y.2.1 := by omega
   funext b
   show xcG t F x.1 x.2.1 x.2.2 b = xcG t F y.1 y.2.1 y.2.2 b
   rw [mx, mx, ← eE, ← ew]
   rw [← eE] at e2
   exact h2 _ _ _ e2 _)
  (fun G h => h)
 have l2 : Listed (fun G => ∃ v, v < M.n ∧ G = fun a => a v) 220 := ⟨fun v a => a v, fun G ⟨v, hv, e⟩ => ⟨v, by omega, e.symm⟩⟩
 refine (l1.or l2).mono (fun G hG => ?_) (Nat.le_refl _)
 rcases hG with ⟨d', a', d, a, rfl⟩ | hG
 ·left
  have fin : ∀ E w, E ≤ 220 → w < 5 → (∀ v, v < 220 → ∀ b : Nat → Bool, (if v < d' then a' v else if xch v < d then a (xch v) else b (xch v)) = if v < E then (if v < d' then a' v else a (xch v)) else if w ≠ 0 ∧ v = E + (w - 1) / 2 then decide (w % 2 = 1) else b (xch v)) →
    ∃ x : Nat × Nat × (Nat → Bool), (x.1 ≤ 220 ∧ x.2.1 < 5) ∧ xcG t F x.1 x.2.1 x.2.2 = fun b => rnF t (fun x => F (M.mix d' a' x)) (M.mix d a b) := fun E w hE hw h => by
   refine ⟨(E, w, fun v => if v < d' then a' v else a (xch v)), ⟨hE, hw⟩, funext fun b => ?_⟩
   refine hF _ _ (fun v _ hv => ?_)
   show (if v < E then _ else if w ≠ 0 ∧ v = E + (w - 1) / 2 then decide (w % 2 = 1) else b (t v)) = M.mix d' a' (fun u => M.mix d a b (t u)) v
   unfold Mgr.mix
   dsimp only
   rw [hp v (by omega), ht v hv, hp (xch v) (by rw [hn]; exact xch_lt hv)]
   exact (h v hv b).symm
  by_cases od : (12 < d ∧ d % 2 = 1) ∧ d < 220
  ·have hb : ∀ v, xch v < d ↔ (v < d - 1 ∨ v = d) := fun v => by rw [xch_below, if_pos od.1]
   have ex : xch d = d - 1 := by unfold xch; rw [if_neg (by omega), if_neg (by omega)]
   by_cases c1 : d' ≤ d - 1
   ·refine fin (d - 1) (if a (d - 1) then 3 else 4) (by omega) (by split <;> omega) (fun v hv b => ?_)
    by_cases x1 : v < d - 1
    ·rw [if_pos x1]
     by_cases x2 : v < d'
     ·rw [if_pos x2, if_pos x2]
     ·rw [if_neg x2, if_neg x2, if_pos ((hb v).2 (.inl x1))]
    ·rw [if_neg x1, if_neg (show ¬ v < d' by omega)]
     by_cases x2 : v = d
     ·subst x2
      rw [if_pos ((hb v).2 (.inr rfl)), ex]
      cases a (v - 1)
      ·simp; omega
      ·simp; omega
     ·rw [if_neg (fun z => by rcases (hb v).1 z with z | z <;> omega), if_neg]
      rintro ⟨_, z⟩
      apply x2
      cases hh : a (d - 1) <;> simp [hh] at z <;> omega
   ·by_cases c2 : d' = d
    ·refine fin d (if a (d - 1) then 1 else 2) (by omega) (by split <;> omega) (fun v hv b => ?_)
     by_cases x1 : v < d
     ·rw [if_pos x1, if_pos (show v < d' by omega), if_pos (show v < d' by omega)]
     ·rw [if_neg x1, if_neg (show ¬ v < d' by omega)]
      by_cases x2 : v = d
      ·rw [if_pos ((hb v).2 (.inr x2)), x2, ex]
       cases a (d - 1)
       ·simp
       ·simp
      ·rw [if_neg (fun z => by rcases (hb v).1 z with z | z <;> omega), if_neg]
       rintro ⟨_, z⟩
       apply x2
       cases hh : a (d - 1) <;> simp [hh] at z <;> omega
    ·refine fin (min 220 d') 0 (by omega) (by omega) (fun v hv b => ?_)
     by_cases x1 : v < d'
     ·rw [if_pos x1, if_pos (show v < min 220 d' by omega), if_pos x1]
     ·rw [if_neg x1, if_neg (show ¬ v < min 220 d' by omega), if_neg (show ¬ xch v < d from fun z => by rcases (hb v).1 z with z | z <;> omega), if_neg (show ¬ (0 ≠ 0 ∧ v = min 220 d' + (0 - 1) / 2) from fun z => z.1 rfl)]
  ·have hb : ∀ v, v < 220 → (xch v < d ↔ v < d) := fun v hv => by
    rw [xch_below]
    split
    ·omega
    ·exact Iff.rfl
   refine fin (min 220 (max d' d)) 0 (by omega) (by omega) (fun v hv b => ?_)
   by_cases x1 : v < d'
   ·rw [if_pos x1, if_pos (show v < min 220 (max d' d) by omega), if_pos x1]
   ·rw [if_neg x1]
    by_cases x2 : v < d
    ·rw [if_pos ((hb v hv).2 x2), if_pos (show v < min 220 (max d' d) by omega), if_neg x1]
    ·rw [if_neg (show ¬ xch v < d from fun z => x2 ((hb v hv).1 z)), if_neg (show ¬ v < min 220 (max d' d) by omega), if_neg (show ¬ (0 ≠ 0 ∧ v = min 220 (max d' d) + (0 - 1) / 2) from fun z => z.1 rfl)]
 ·exact .inr hG
end Go.Proofs.YtdgnbbmgcgfibaaGreatDoor

namespace Go.Proofs.YtdgnbbmgcgfibaaGreatDoor
open Go.RowKit

def smR (W : Nat → Bool) (a : Nat → Bool) : Nat → Bool
 | 0 => true
 | j + 1 => if W (fieldOf (103 - j)) then (a (hvar (103 - j) false) == a (hvar (103 - j) true)) && smR W a j else smR W a j

theorem smR_rd (W : Nat → Bool) : ∀ j, j ≤ 104 → Rd (hvar (104 - j) false) 220 (fun a => smR W a j)
 | 0, _ => fun _ _ _ => rfl
 | j + 1, hj => by
  have ih := smR_rd W j (by omega)
  intro a b hab
  have e : 104 - (j + 1) = 103 - j := by omega
  rw [e] at hab
  have h1 : hvar (103 - j) false = 12 + 2 * (103 - j) := rfl
  have h2 : hvar (103 - j) true = 12 + 2 * (103 - j) + 1 := rfl
  have h3 : hvar (104 - j) false = 12 + 2 * (104 - j) := rfl
  have e1 := hab (hvar (103 - j) false) (Nat.le_refl _) (by omega)
  have e2 := hab (hvar (103 - j) true) (by omega) (by omega)
  have e3 : smR W a j = smR W b j := ih a b (fun v g1 g2 => hab v (by omega) g2)
  show (if _ then _ else _) = (if _ then _ else _)
  rw [e1, e2, e3]

theorem same_st (W : Nat → Bool) {j s : Nat} (hj : j < 104) (hs : PSt 220 (fun a => smR W a j) s) : PSt 220 (fun a => (a (hvar (103 - j) false) == a (hvar (103 - j) true)) && smR W a j) (s + 5) := by
 have h1 : hvar (103 - j) false = 12 + 2 * (103 - j) := rfl
 have h2 : hvar (103 - j) true = 12 + 2 * (103 - j) + 1 := rfl
 have h3 : hvar (104 - j) false = 12 + 2 * (104 - j) := rfl
 have r1 : Rd (hvar (103 - j) false) (hvar (103 - j) false + 2) (fun a => a (hvar (103 - j) false) == a (hvar (103 - j) true)) := fun a b hab => by
  show (a _ == a _) = (b _ == b _)
  rw [hab _ (Nat.le_refl _) (by omega), hab (hvar (103 - j) true) (by omega) (by omega)]
 have p1 : PSt 220 (fun a => a (hvar (103 - j) false) == a (hvar (103 - j) true)) 4 := PSt.op (fun x y => x == y) (PSt.var 220 _ (by omega)) (PSt.var 220 _ (by omega))
 exact (PSt.and_above r1 (smR_rd W j (by omega)) (by omega) (by omega) (Nat.le_refl _) p1 hs).mono (by omega)

theorem smR_st (W : Nat → Bool) : ∀ j, j ≤ 104 → PSt 220 (fun a => smR W a j) (1 + 5 * j)
 | 0, _ => PSt.const _ true
 | j + 1, hj => by
  have ih := smR_st W j (by omega)
  cases hw : W (fieldOf (103 - j))
  ·exact (ih.congr (fun a => by show (if _ then _ else _) = _; rw [hw]; rfl)).mono (by omega)
  ·exact ((same_st W (by omega) ih).congr (fun a => by show (if _ then _ else _) = _; rw [hw]; rfl)).mono (by omega)

theorem smR_skip (W : Nat → Bool) (a : Nat → Bool) (j : Nat) : ∀ i, (∀ x, x < i → W (fieldOf (103 - (j + x))) = false) → smR W a (j + i) = smR W a j
 | 0, _ => rfl
 | i + 1, h => by
  have := smR_skip W a j i (fun x hx => h x (by omega))
  rw [← this]
  have e : smR W a (j + (i + 1)) = if W (fieldOf (103 - (j + i))) then (a (hvar (103 - (j + i)) false) == a (hvar (103 - (j + i)) true)) && smR W a (j + i) else smR W a (j + i) := rfl
  rw [e, h i (by omega)]; rfl

theorem smR_eq (W : Nat → Bool) (a : Nat → Bool) : ∀ j, j ≤ 104 → (smR W a j = true ↔ ∀ u, 104 - j ≤ u → u < 104 → W (fieldOf u) = true → a (hvar u false) = a (hvar u true))
 | 0, _ => by exact ⟨fun _ u h1 h2 => by omega, fun _ => rfl⟩
 | j + 1, hj => by
  have ih := smR_eq W a j (by omega)
  have e : smR W a (j + 1) = if W (fieldOf (103 - j)) then (a (hvar (103 - j) false) == a (hvar (103 - j) true)) && smR W a j else smR W a j := rfl
  rw [e]
  cases hw : W (fieldOf (103 - j))
  ·rw [if_neg (by decide), ih]
   constructor
   ·intro h u h1 h2 h3
    by_cases hu : u = 103 - j
    ·subst hu; rw [hw] at h3; cases h3
    ·exact h u (by omega) h2 h3
   ·intro h u h1 h2 h3; exact h u (by omega) h2 h3
  ·rw [if_pos rfl, Bool.and_eq_true, ih, beq_iff_eq]
   constructor
   ·intro ⟨h0, h⟩ u h1 h2 h3
    by_cases hu : u = 103 - j
    ·subst hu; exact h0
    ·exact h u (by omega) h2 h3
   ·intro h
    exact ⟨h _ (by omega) (by omega) hw, fun u h1 h2 h3 => h u (by omega) h2 h3⟩

structure SmP (W : Nat → Bool) (j x y : Nat) : Prop where
 x220 : x < 220
 y220 : y < 220
 px : PSt 220 (fun a => a x ^^ a y) 4
 pn : PSt 220 (fun a => !(a x ^^ a y) && smR W a j) 600
 st : ∀ a, (!(a x ^^ a y) && smR W a j) = smR W a (j + 1)
theorem smP (W : Nat → Bool) {k b j : Nat} (hk : k < 5) (hb : b < fw k) (hj : j + (ff k + b) = 103) (hw : W k = true) : SmP W j (fvar k b false) (fvar k b true) := by
 have e : 103 - j = ff k + b := by omega
 have hf := fieldOf_at hk hb
 have hs := same_st W (by omega) (smR_st W j (by omega))
 rw [e] at hs
 refine ⟨fvar_lt hk hb _, fvar_lt hk hb _, PSt.op (fun x y => x ^^ y) (PSt.var 220 _ (fvar_lt hk hb _)) (PSt.var 220 _ (fvar_lt hk hb _)), (hs.congr (fun a => ?_)).mono (by omega), fun a => ?_⟩
 ·show (!(a (hvar _ false) ^^ a (hvar _ true)) && _) = _
  cases a (hvar (ff k + b) false) <;> cases a (hvar (ff k + b) true) <;> rfl
 ·have e1 : smR W a (j + 1) = if W (fieldOf (103 - j)) then (a (hvar (103 - j) false) == a (hvar (103 - j) true)) && smR W a j else smR W a j := rfl
  rw [e1, e, hf, hw, if_pos rfl]
  show (!(a (hvar _ false) ^^ a (hvar _ true)) && _) = _
  cases a (hvar (ff k + b) false) <;> cases a (hvar (ff k + b) true) <;> rfl

structure SmJ (w wr : World) (x : Nat → Bool) : Prop where
 arr : wr.heap[w.heap.size]? = some (.cells #[.bool (x 0), .bool (x 1), .bool (x 2), .bool (x 3), .bool (x 4)] 168 (0, 0))
 kp : Kp No w wr
section
variable {w wr w' : World} {x : Nat → Bool}
theorem SmJ.cell (j : SmJ w wr x) {k : Nat} (hk : k < 5) : wr.cell? ⟨w.heap.size, k, none⟩ = some (.bool (x k)) ∧ wr.frozen? ⟨w.heap.size, k, none⟩ = false := by
 refine ⟨?_, by simp [World.frozen?, j.arr]⟩
 rw [cell_of_row _ _ _ _ _ _ j.arr]
 rcases five hk with rfl | rfl | rfl | rfl | rfl <;> rfl
theorem SmJ.set (j : SmJ w wr x) {k : Nat} (hk : k < 5) (v : Bool) : SmJ w (wr.setCell ⟨w.heap.size, k, none⟩ (.bool v)) (Mgr.upd x k v) := by
 refine ⟨?_, j.kp.trans (A' := fun b => b = w.heap.size) (fun b e => .inr (by omega)) ((Kp.setCell _ _).mono (fun _ _ e => e))⟩
 rw [setCell_heap j.arr]
 rcases five hk with rfl | rfl | rfl | rfl | rfl <;> rfl
end

def wnt (l : List Int) : Nat → Bool := fun k => decide (k < 5) && decide ((k : Int) ∈ l)
theorem wnt_step (l : List Int) {k : Nat} (hk : k < l.length) {v : Nat} (hx : l.getD k 0 = (v : Int)) (hv : v < 5) : Mgr.upd (wnt (l.take k)) v true = wnt (l.take (k + 1)) := by
 funext u
 have e : l.take (k + 1) = l.take k ++ [l.getD k 0] := by rw [List.take_succ_eq_append_getElem hk]; simp [hk]
 unfold Mgr.upd wnt
 rw [e, hx]
 by_cases h : u = v
 ·subst h; simp [hv]
 ·rw [if_neg h]
  have : ((u : Int) ∈ l.take k ++ [(v : Int)]) ↔ (u : Int) ∈ l.take k := by simp; omega
  simp only [this]
theorem wnt_skip (l : List Int) {k : Nat} (hk : k < l.length) (hx : ¬ (0 ≤ l.getD k 0 ∧ l.getD k 0 < 5)) : wnt (l.take k) = wnt (l.take (k + 1)) := by
 funext u
 have e : l.take (k + 1) = l.take k ++ [l.getD k 0] := by rw [List.take_succ_eq_append_getElem hk]; simp [hk]
 unfold wnt
 rw [e]
 by_cases h : u < 5
 ·have : ((u : Int) ∈ l.take k ++ [l.getD k 0]) ↔ (u : Int) ∈ l.take k := by
   rw [List.mem_append, List.mem_singleton]
   constructor
   ·rintro (h1 | h1)
    ·exact h1
    ·exact (hx (by omega)).elim
   ·exact .inl
  simp only [this]
 ·simp [h]

def SmA (w : World) (l : List Int) (gk : Nat) (s : Value) (wr : World) : Prop := ∃ k, k + gk = l.length ∧ s = .int .i64 (k : Int) ∧ SmJ w wr (wnt (l.take k))
def SmO (w0 : World) (p : Nat) (L0 : Lay) (c : Nat) (B : List (Int × Bfn)) (W : Nat → Bool) (gk : Nat) (s8 s9 : Value) (wr : World) : Prop :=
 ∃ f M L, gk ≤ 5 ∧ s8 = .int .i64 f ∧ s9 = .int .i64 ((gk : Int) - 1) ∧ Hf w0 p L0 220 (c + (104 - fsum gk) * 150000) wr M L ((f, fun a => smR W a (104 - fsum gk)) :: B)
def SmI (w0 : World) (p : Nat) (L0 : Lay) (c : Nat) (B : List (Int × Bfn)) (W : Nat → Bool) (k fk j0 gk : Nat) (s8 s10 : Value) (wr : World) : Prop :=
 ∃ i f M L, i + gk = fk ∧ (W k = false → i = 0) ∧ s8 = .int .i64 f ∧ s10 = .int .i64 ((gk : Int) - 1) ∧ Hf w0 p L0 220 (c + (j0 + i) * 150000) wr M L ((f, fun a => smR W a (j0 + i)) :: B)

set_option maxRecDepth 100000 in
set_option maxHeartbeats 4000000 in
theorem Same_ok {p c : Nat} {M : Mgr} {L : Lay} {B : List (Int × Bfn)} (l : List Int) (hl : l.length ≤ 1000000) {dv : Value} {w : World} (R : Rep w p M L) (q : Qk 220 c M B) (g : Gl w) (ho : ¬ L.at p 0) (hd : SrcAt w dv 1 l.length (l.map intV)) (hc : c ≤ 500000000000) :
  Calls Tryz.prog 61 #[ptr p, dv] w (OpQ p 220 (c + 20000000) L w (fun a => smR (wnt l) a 104) B) := by
 have hboxL : ¬ L.at p w.heap.size := fun h => by have := R.lt _ h; omega
 obtain ⟨W, hW⟩ : ∃ W, W = wnt l := ⟨_, rfl⟩
 rw [← hW]
 have GLW := Lib.hid g
 have HD := Lib.hid hd
 have RQ := Lib.hid (And.intro R (And.intro q ho))
 have HBL := Lib.hid hboxL
 obtain ⟨ao, cp, rfl, _⟩ := hd
 clear g R q ho hboxL
 go_enter Tryz.func61, Tryz.ntmps61
 go_wp2_with fail
 have J0 : Hid (SmA w l l.length (.int .i64 0) (w.alloc (.cells #[.bool false, .bool false, .bool false, .bool false, .bool false] 168))) := Lib.hid ⟨0, by omega, rfl, ⟨heap_alloc_new _ _, Kp.alloc _⟩⟩
 go_loopg [15] l.length (fun gk s wr => SmA w l gk s wr)
 case atStart => exact J0.out
 case round =>
  clear J0
  obtain ⟨k, hk, rfl, j⟩ := hrel
  by_cases hlt : k < l.length
  ·clear RQ
   have kw : Kp No w wr := j.kp
   have GLR := Lib.hid (GLW.out.no kw)
   obtain ⟨ao', c', hv', _, hcells⟩ := HD.out.no kw
   have hv1 : ao = ao' := by injection hv'
   subst hv1
   rcases hcells with hcells | ⟨g, o, rfl, hg, hcells⟩
   ·rw [hcells] at hlt; simp at hlt
   have hc : wr.cell? ⟨g, o + k, none⟩ = some (.int .i64 (l.getD k 0)) := hcells k _ (by simp [hlt, intV])
   have hlti : (k : Int) < l.length := by omega
   have HK := Lib.hid hk
   by_cases hx : 0 ≤ l.getD k 0 ∧ l.getD k 0 < 5
   ·obtain ⟨v, hv⟩ : ∃ v : Nat, l.getD k 0 = (v : Int) := ⟨(l.getD k 0).toNat, by omega⟩
    have hv5 : v < 5 := by omega
    obtain ⟨c1, z1⟩ := j.cell (k := v) hv5
    have JN : Hid (SmA w l (l.length - (k + 1)) (.int .i64 ((k + 1 : Nat) : Int)) (wr.setCell ⟨w.heap.size, v, none⟩ (.bool true))) := Lib.hid ⟨k + 1, by omega, rfl, by
     have := j.set hv5 true
     rw [wnt_step l hlt hv hv5] at this
     exact this⟩
    have WI := Lib.hid (fun (x : World) (h : Gl x) => Width_in v hv5 h)
    have hfp := fw_pos hv5
    have hfpi : (0 : Int) < (fw v : Int) := by omega
    rw [hv] at hc
    have hvi : (v : Int) < 5 := by omega
    generalize wnt (l.take k) v = old at *
    generalize fw v = f at *
    clear hk j kw hcells hx hv hv' hfp
    go_wp2_with fail
    refine (WI.out _ GLR.out).mono ?_
    rintro e w' ⟨rfl, rfl⟩
    clear WI
    go_wp2_with fail
    go_roundg (l.length - (k + 1))
    case measure => have := HK.out; omega
    case rel => exact JN.out
   ·have JN : Hid (SmA w l (l.length - (k + 1)) (.int .i64 ((k + 1 : Nat) : Int)) wr) := Lib.hid ⟨k + 1, by omega, rfl, by rw [← wnt_skip l hlt hx]; exact j⟩
    have WO := Lib.hid (fun (x : World) => Width_out (l.getD k 0) hx x)
    generalize l.getD k 0 = y at *
    clear hk j kw hcells hx hv'
    go_wp2_with fail
    refine (WO.out _).mono ?_
    rintro e w' ⟨rfl, rfl⟩
    clear WO
    go_wp2_with fail
    go_roundg (l.length - (k + 1))
    case measure => have := HK.out; omega
    case rel => exact JN.out
  ·obtain rfl : k = l.length := by omega
   rw [List.take_length, ← hW] at j
   have hlti : ¬ (l.length : Int) < l.length := by omega
   have H0 := Lib.hid (Hf.start (RQ.out.1.no j.kp) RQ.out.2.1 (GLW.out.no j.kp) RQ.out.2.2)
   have J := Lib.hid j
   have BX := Lib.hid j.arr
   have KA := Lib.hid j.kp
   have O0 : Hid (SmO wr p L c B W 5 (.int .i64 1) (.int .i64 4) wr) := Lib.hid (by
    refine ⟨1, M, L, by omega, rfl, rfl, ?_⟩
    have h := H0.out.consts
    rw [show 104 - fsum 5 = 0 from rfl, Nat.zero_mul, Nat.add_zero]
    exact h.sub (fun x hx => by
     rcases List.mem_cons.1 hx with rfl | hx
     ·exact .tail _ (.head _)
     ·exact .tail _ (.tail _ hx)))
   have hcl : ∀ (M2 : Mgr) (L2 : Lay) (c2 : Nat) (B2 : List (Int × Bfn)) (y : World), Hf wr p L 220 c2 y M2 L2 B2 → ∀ k, k < 5 → y.cell? ⟨w.heap.size, k, none⟩ = some (.bool (W k)) := fun M2 L2 c2 B2 y f2 k hk => by
    have bx := BX.out
    rw [← f2.sd.kp.block _ (heap_lt bx) HBL.out] at bx
    rw [cell_of_row _ _ _ _ _ _ bx]
    rcases five hk with rfl | rfl | rfl | rfl | rfl <;> rfl
   have HCL := Lib.hid hcl
   clear hk hlt j RQ H0 J BX HD hcl hW
   go_wp2_with fail
   generalize wr = wA at *
   go_loopg [8, 9] 5 (fun gk s8 s9 wr => SmO wA p L c B W gk s8 s9 wr)
   case atStart => exact O0.out
   case round =>
    clear O0
    obtain ⟨f, M1, L1, hg5, rfl, rfl, h⟩ := hrel
    by_cases hlt : 0 < gk
    ·obtain ⟨k, rfl⟩ : ∃ k, gk = k + 1 := ⟨gk - 1, by omega⟩
     have hk5 : k < 5 := by omega
     have hki : ((k + 1 : Nat) : Int) - 1 = (k : Int) := by omega
     rw [hki]
     obtain ⟨e1, e2⟩ := fsum_lt hk5
     have hfp := fw_pos hk5
     have hfl := fw_le k
     have hff := ff_fw hk5
     have II : Hid (SmI wA p L c B W k (fw k) (104 - fsum (k + 1)) (fw k) (.int .i64 f) (.int .i64 ((fw k : Int) - 1)) wr) := Lib.hid ⟨0, f, M1, L1, by omega, fun _ => rfl, rfl, rfl, h⟩
     have WI := Lib.hid (Width_in k hk5 h.gl)
     have VI := Lib.hid (fun (x : World) (h : Gl x) (b : Nat) (hb : b < fw k) (nx : Bool) => HVar_in k b nx hk5 hb h)
     have SP := Lib.hid (fun (j b : Nat) (hb : b < fw k) (hj : j + (ff k + b) = 103) (hw : W k = true) => smP W hk5 hb hj hw)
     have SK := Lib.hid (fun (a : Nat → Bool) (hw : W k = false) => smR_skip W a (104 - fsum (k + 1)) (fw k) (fun x hx => by
      rw [show 103 - (104 - fsum (k + 1) + x) = ff k + (fw k - 1 - x) by omega, fieldOf_at hk5 (by omega)]; exact hw))
     have EJ : Hid (104 - fsum (k + 1) + fw k = 104 - fsum k) := Lib.hid (by omega)
     have EB : Hid (∀ i, i < fw k → (104 - fsum (k + 1) + i) + (ff k + (fw k - 1 - i)) = 103) := Lib.hid (fun i hi => by omega)
     have EC : Hid (∀ i, i ≤ fw k → 104 - fsum (k + 1) + i ≤ 104) := Lib.hid (fun i hi => by omega)
     generalize fw k = fk at *
     generalize 104 - fsum (k + 1) = j0 at *
     have HG := Lib.hid hg5
     have hlti : (k : Int) < 5 := by omega
     clear h hg5 e1 e2 hki hff
     go_wp2_with fail
     refine WI.out.mono ?_
     rintro e w' ⟨rfl, rfl⟩
     clear WI
     go_wp2_with fail
     go_loopg [8, 10] fk (fun gk s8 s10 wr => SmI wA p L c B W k fk j0 gk s8 s10 wr)
     case atStart => exact II.out
     case round =>
      clear II
      obtain ⟨i, f, M2, L2, hi, hi0, rfl, rfl, h⟩ := hrel
      have cw := HCL.out _ _ _ _ _ h k hk5
      cases hw : W k
      ·obtain rfl : i = 0 := hi0 hw
       rw [hw] at cw
       have ON : Hid (SmO wA p L c B W k (.int .i64 f) (.int .i64 ((k : Int) - 1)) wr) := Lib.hid ⟨f, M2, L2, by omega, rfl, rfl, by
        have e := EJ.out
        rw [← e]
        exact (h.cong (G := fun a => smR W a (j0 + fk)) (fun a => (SK.out a hw).symm)).mono (by omega)⟩
       clear hi hi0 h hw
       go_wp2_with fail
       go_roundg k
       case measure => omega
       case rel => exact ON.out
      ·rw [hw] at cw
       by_cases hgt : 0 < gk
       ·obtain ⟨b, rfl⟩ : ∃ b, gk = b + 1 := ⟨gk - 1, by omega⟩
        have hbi : ((b + 1 : Nat) : Int) - 1 = (b : Int) := by omega
        rw [hbi]
        have hbl : b < fk := by omega
        have hb0 : (0 : Int) ≤ (b : Int) := by omega
        have ej := EB.out i (by omega)
        rw [show fk - 1 - i = b by omega] at ej
        have hic := EC.out i (by omega)
        have sp := SP.out (j0 + i) b hbl ej hw
        have hx := sp.x220
        have hy := sp.y220
        have SPH := Lib.hid sp
        have H1 := Lib.hid h
        have HI := Lib.hid hi
        have HW := Lib.hid hw
        have VA := Lib.hid (VI.out _ h.gl b hbl false)
        have VB := Lib.hid (fun (y : World) (hy : Gl y) => VI.out y hy b hbl true)
        generalize fvar k b false = x at *
        generalize fvar k b true = y at *
        generalize hjj : j0 + i = jj at *
        have JJ := Lib.hid hjj
        clear sp h hi hi0 hw ej hjj
        go_wp2_with fail
        refine VA.out.mono ?_
        rintro e w' ⟨rfl, rfl⟩
        clear VA
        go_wp2_with fail
        refine (VarQ H1.out.rep H1.out.qk hx (by omega)).mono ?_
        intro e w2 h2
        obtain ⟨rx, M3, L3, rfl, hx0, f2⟩ := H1.out.step h2
        have H2 := Lib.hid f2
        clear h2 f2 H1 cw
        go_wp2_with fail
        refine (VB.out _ H2.out.gl).mono ?_
        rintro e w' ⟨rfl, rfl⟩
        clear VB
        go_wp2_with fail
        refine (VarQ H2.out.rep H2.out.qk hy (by omega)).mono ?_
        intro e w3 h3
        obtain ⟨ry, M4, L4, rfl, hy0, f3⟩ := H2.out.step h3
        have H3 := Lib.hid f3
        clear h3 f3 H2
        go_wp2_with fail
        refine (XorQ H3.out.rep H3.out.qk (f := rx) (g := ry) (F := fun a => a x) (G := fun a => a y) (.tail _ (.head _)) (.head _) (s := 4) (t := 2) SPH.out.px (PSt.var 220 y hy) (by omega)).mono ?_
        intro e w4 h4
        obtain ⟨rz, M5, L5, rfl, hz0, f4⟩ := H3.out.step h4
        have H4 := Lib.hid f4
        clear h4 f4 H3
        go_wp2_with fail
        refine (NotQ H4.out.rep H4.out.qk (f := rz) (F := fun a => a x ^^ a y) (.head _) (s := 4) SPH.out.px (by omega)).mono ?_
        intro e w5 h5
        obtain ⟨rn, M6, L6, rfl, hn0, f5⟩ := H4.out.step h5
        have H5 := Lib.hid f5
        clear h5 f5 H4
        go_wp2_with fail
        refine (AndQ H5.out.rep H5.out.qk (f := rn) (g := f) (F := fun a => !(a x ^^ a y)) (G := fun a => smR W a jj) (.head _) (.tail _ (.tail _ (.tail _ (.tail _ (.head _))))) (s := 600) SPH.out.pn (by omega)).mono ?_
        intro e w6 h6
        obtain ⟨f2, M7, L7, rfl, hf0, f6⟩ := H5.out.step h6
        have JN : Hid (SmI wA p L c B W k fk j0 b (.int .i64 f2) (.int .i64 ((b : Int) - 1)) w6) := Lib.hid (by
         refine ⟨i + 1, f2, M7, L7, by have := HI.out; omega, fun hw => (by rw [HW.out] at hw; cases hw), rfl, rfl, ?_⟩
         rw [← Nat.add_assoc, JJ.out]
         refine ((f6.cong SPH.out.st).mono (by omega)).sub (fun z hz => ?_)
         rcases List.mem_cons.1 hz with rfl | hz
         ·exact .head _
         ·exact .tail _ (.tail _ (.tail _ (.tail _ (.tail _ (.tail _ hz))))))
        clear h6 f6 H5
        go_wp2_with fail
        go_roundg b
        case measure => omega
        case rel => exact JN.out
       ·obtain rfl : gk = 0 := by omega
        have ON : Hid (SmO wA p L c B W k (.int .i64 f) (.int .i64 ((k : Int) - 1)) wr) := Lib.hid ⟨f, M2, L2, by omega, rfl, rfl, by
         have e := EJ.out
         obtain rfl : i = fk := by omega
         rw [← e]
         exact h⟩
        clear hi hi0 h hw hgt
        go_wp2_with fail
        go_roundg k
        case measure => omega
        case rel => exact ON.out
    ·obtain rfl : gk = 0 := by omega
     have FIN : Hid (OpQ p 220 (c + 20000000) L w (fun a => smR W a 104) B (.returned (.int .i64 f)) wr) := Lib.hid (OpQ.before KA.out (h.ret (.head _) (fun x hx => .tail _ hx) (by show c + (104 - 0) * 150000 ≤ _; omega)))
     clear h hg5 hlt
     go_wp2_with fail
     go_ret
     exact FIN.out

end Go.Proofs.YtdgnbbmgcgfibaaGreatDoor
