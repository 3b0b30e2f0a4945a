/-
  Walks: 'Match' of the package header.
-/
import Derived.Test.YtohinonkfhkclaaDoorHpm
import Derived.BigGuard
namespace Go.Proofs.YtohinonkfhkclaaDoor
open Go.RowKit

def ptB (lo hi : Int) : Bool := decide (0 ≤ lo) && (decide (lo ≤ hi) && decide (hi ≤ 65535))

set_option maxRecDepth 100000 in
theorem validPorts_ok (lo hi : Int) (w : World) : Calls Tryd.prog 57 #[.agg #[.int .i64 lo, .int .i64 hi]] w fun e w' => e = .returned (.bool (ptB lo hi)) ∧ Kp No w w' := by
  unfold ptB
  by_cases h0 : 0 ≤ lo
  case neg =>
    rw [decide_eq_false h0, Bool.false_and]
    go_enter Tryd.func57, Tryd.ntmps57
    go_wp2_with fail
    go_ret
    exact ⟨rfl, Kp.alloc _⟩
  rw [decide_eq_true h0, Bool.true_and]
  by_cases h1 : lo ≤ hi
  case neg =>
    rw [decide_eq_false h1, Bool.false_and]
    go_enter Tryd.func57, Tryd.ntmps57
    go_wp2_with fail
    go_ret
    exact ⟨rfl, Kp.alloc _⟩
  rw [decide_eq_true h1, Bool.true_and]
  by_cases h2 : hi ≤ 65535
  case neg =>
    rw [decide_eq_false h2]
    go_enter Tryd.func57, Tryd.ntmps57
    go_wp2_with fail
    go_ret
    exact ⟨rfl, Kp.alloc _⟩
  rw [decide_eq_true h2]
  go_enter Tryd.func57, Tryd.ntmps57
  go_wp2_with fail
  go_ret
  exact ⟨rfl, Kp.alloc _⟩

structure Mt where
  sa : Nat
  sl : Int
  da : Nat
  dl : Int
  pr : Int
  s0 : Int
  s1 : Int
  d0 : Int
  d1 : Int
def mtV (m : Mt) : Value := .agg #[.int .u32 (m.sa : Int), .int .i64 m.sl, .int .u32 (m.da : Int), .int .i64 m.dl, .int .i64 m.pr, .int .i64 m.s0, .int .i64 m.s1, .int .i64 m.d0, .int .i64 m.d1]
structure Mt.in32 (m : Mt) : Prop where
  h0 : m.sa < 4294967296
  h1 : m.da < 4294967296
  pr : -9223372036854775808 ≤ m.pr ∧ m.pr ≤ 9223372036854775807
  s0 : -9223372036854775808 ≤ m.s0 ∧ m.s0 ≤ 9223372036854775807
  s1 : -9223372036854775808 ≤ m.s1 ∧ m.s1 ≤ 9223372036854775807
  d0 : -9223372036854775808 ≤ m.d0 ∧ m.d0 ≤ 9223372036854775807
  d1 : -9223372036854775808 ≤ m.d1 ∧ m.d1 ≤ 9223372036854775807
def MtAt (x : World) (b : Nat) (m : Mt) : Prop := x.heap[b]? = some (.cells #[.int .u32 (m.sa : Int), .int .i64 m.sl, .int .u32 (m.da : Int), .int .i64 m.dl, .int .i64 m.pr, .int .i64 m.s0, .int .i64 m.s1, .int .i64 m.d0, .int .i64 m.d1] 46 (0, 0))
structure MtC (x : World) (b : Nat) (m : Mt) : Prop where
  c0 : x.cell? ⟨b, 0, none⟩ = some (.int .u32 (m.sa : Int))
  c1 : x.cell? ⟨b, 1, none⟩ = some (.int .i64 m.sl)
  c2 : x.cell? ⟨b, 2, none⟩ = some (.int .u32 (m.da : Int))
  c3 : x.cell? ⟨b, 3, none⟩ = some (.int .i64 m.dl)
  c4 : x.cell? ⟨b, 4, none⟩ = some (.int .i64 m.pr)
  c5 : x.cell? ⟨b, 5, none⟩ = some (.int .i64 m.s0)
  c6 : x.cell? ⟨b, 6, none⟩ = some (.int .i64 m.s1)
  c7 : x.cell? ⟨b, 7, none⟩ = some (.int .i64 m.d0)
  c8 : x.cell? ⟨b, 8, none⟩ = some (.int .i64 m.d1)
section
variable {x y : World} {b : Nat} {m : Mt}
theorem MtAt.c (h : MtAt x b m) : MtC x b m := by
  constructor <;> (rw [cell_of_row _ _ _ _ _ _ h]; rfl)
theorem MtAt.lt (h : MtAt x b m) : b < x.heap.size := heap_lt h
theorem MtAt.kp {A : Nat → Prop} (h : MtAt x b m) (k : Kp A x y) (hn : ¬ A b) : MtAt y b m := by unfold MtAt; rw [k.block _ h.lt hn]; exact h
theorem MtAt.no (h : MtAt x b m) (k : Kp No x y) : MtAt y b m := h.kp k (fun x => x)
theorem MtAt.new (w : World) (m : Mt) : MtAt (w.alloc (.cells #[.int .u32 (m.sa : Int), .int .i64 m.sl, .int .u32 (m.da : Int), .int .i64 m.dl, .int .i64 m.pr, .int .i64 m.s0, .int .i64 m.s1, .int .i64 m.d0, .int .i64 m.d1] 46)) w.heap.size m := heap_alloc_new _ _
end

def mtB (m : Mt) : Bool := pvB m.sa m.sl && (pvB m.da m.dl && (decide (-1 ≤ m.pr) && (decide (m.pr ≤ 255) && (ptB m.s0 m.s1 && ptB m.d0 m.d1))))

set_option maxRecDepth 100000 in
set_option maxHeartbeats 2000000 in
theorem ValidMatch_ok (m : Mt) (w : World) : Calls Tryd.prog 26 #[mtV m] w fun e w' => e = .returned (.bool (mtB m)) ∧ Kp No w w' := by
  have VS := Lib.hid (fun (y : World) => Valid_ok m.sa m.sl y)
  have VD := Lib.hid (fun (y : World) => Valid_ok m.da m.dl y)
  have PS := Lib.hid (fun (y : World) => validPorts_ok m.s0 m.s1 y)
  have PD := Lib.hid (fun (y : World) => validPorts_ok m.d0 m.d1 y)
  have M0 := Lib.hid (MtAt.new w m)
  have K0 := Lib.hid (Kp.alloc (w := w) (.cells #[.int .u32 (m.sa : Int), .int .i64 m.sl, .int .u32 (m.da : Int), .int .i64 m.dl, .int .i64 m.pr, .int .i64 m.s0, .int .i64 m.s1, .int .i64 m.d0, .int .i64 m.d1] 46))
  unfold mtB
  cases h1 : pvB m.sa m.sl
  · rw [h1] at VS
    rw [Bool.false_and]
    clear h1
    unfold mtV
    go_enter Tryd.func26, Tryd.ntmps26
    go_wp2_with fail
    refine (VS.out _).mono ?_
    rintro e w1 ⟨rfl, k1⟩
    have M1 := Lib.hid (M0.out.no k1)
    have K1 := Lib.hid (K0.out.trans_no k1)
    clear k1
    go_wp2_with fail
    go_ret
    exact ⟨rfl, K1.out⟩
  rw [h1] at VS
  rw [Bool.true_and]
  clear h1
  cases h2 : pvB m.da m.dl
  · rw [h2] at VD
    rw [Bool.false_and]
    clear h2
    unfold mtV
    go_enter Tryd.func26, Tryd.ntmps26
    go_wp2_with fail
    refine (VS.out _).mono ?_
    rintro e w1 ⟨rfl, k1⟩
    have M1 := Lib.hid (M0.out.no k1)
    have K1 := Lib.hid (K0.out.trans_no k1)
    clear k1
    obtain ⟨c0, c1, c2, c3, c4, c5, c6, c7, c8⟩ := M1.out.c
    go_wp2_with fail
    refine (VD.out _).mono ?_
    rintro e w2 ⟨rfl, k2⟩
    have M2 := Lib.hid (M1.out.no k2)
    have K2 := Lib.hid (K1.out.trans_no k2)
    clear k2
    clear c0 c1 c2 c3 c4 c5 c6 c7 c8
    obtain ⟨c0, c1, c2, c3, c4, c5, c6, c7, c8⟩ := M2.out.c
    go_wp2_with fail
    go_ret
    exact ⟨rfl, K2.out⟩
  rw [h2] at VD
  rw [Bool.true_and]
  clear h2
  by_cases h3 : -1 ≤ m.pr
  case neg =>
    rw [decide_eq_false h3, Bool.false_and]
    unfold mtV
    go_enter Tryd.func26, Tryd.ntmps26
    go_wp2_with fail
    refine (VS.out _).mono ?_
    rintro e w1 ⟨rfl, k1⟩
    have M1 := Lib.hid (M0.out.no k1)
    have K1 := Lib.hid (K0.out.trans_no k1)
    clear k1
    obtain ⟨c0, c1, c2, c3, c4, c5, c6, c7, c8⟩ := M1.out.c
    go_wp2_with fail
    refine (VD.out _).mono ?_
    rintro e w2 ⟨rfl, k2⟩
    have M2 := Lib.hid (M1.out.no k2)
    have K2 := Lib.hid (K1.out.trans_no k2)
    clear k2
    clear c0 c1 c2 c3 c4 c5 c6 c7 c8
    obtain ⟨c0, c1, c2, c3, c4, c5, c6, c7, c8⟩ := M2.out.c
    go_wp2_with fail
    go_ret
    exact ⟨rfl, K2.out⟩
  rw [decide_eq_true h3, Bool.true_and]
  by_cases h4 : m.pr ≤ 255
  case neg =>
    rw [decide_eq_false h4, Bool.false_and]
    unfold mtV
    go_enter Tryd.func26, Tryd.ntmps26
    go_wp2_with fail
    refine (VS.out _).mono ?_
    rintro e w1 ⟨rfl, k1⟩
    have M1 := Lib.hid (M0.out.no k1)
    have K1 := Lib.hid (K0.out.trans_no k1)
    clear k1
    obtain ⟨c0, c1, c2, c3, c4, c5, c6, c7, c8⟩ := M1.out.c
    go_wp2_with fail
    refine (VD.out _).mono ?_
    rintro e w2 ⟨rfl, k2⟩
    have M2 := Lib.hid (M1.out.no k2)
    have K2 := Lib.hid (K1.out.trans_no k2)
    clear k2
    clear c0 c1 c2 c3 c4 c5 c6 c7 c8
    obtain ⟨c0, c1, c2, c3, c4, c5, c6, c7, c8⟩ := M2.out.c
    go_wp2_with fail
    go_ret
    exact ⟨rfl, K2.out⟩
  rw [decide_eq_true h4, Bool.true_and]
  cases h5 : ptB m.s0 m.s1
  · rw [h5] at PS
    rw [Bool.false_and]
    clear h5
    unfold mtV
    go_enter Tryd.func26, Tryd.ntmps26
    go_wp2_with fail
    refine (VS.out _).mono ?_
    rintro e w1 ⟨rfl, k1⟩
    have M1 := Lib.hid (M0.out.no k1)
    have K1 := Lib.hid (K0.out.trans_no k1)
    clear k1
    obtain ⟨c0, c1, c2, c3, c4, c5, c6, c7, c8⟩ := M1.out.c
    go_wp2_with fail
    refine (VD.out _).mono ?_
    rintro e w2 ⟨rfl, k2⟩
    have M2 := Lib.hid (M1.out.no k2)
    have K2 := Lib.hid (K1.out.trans_no k2)
    clear k2
    clear c0 c1 c2 c3 c4 c5 c6 c7 c8
    obtain ⟨c0, c1, c2, c3, c4, c5, c6, c7, c8⟩ := M2.out.c
    go_wp2_with fail
    refine (PS.out _).mono ?_
    rintro e w3 ⟨rfl, k3⟩
    have M3 := Lib.hid (M2.out.no k3)
    have K3 := Lib.hid (K2.out.trans_no k3)
    clear k3
    clear c0 c1 c2 c3 c4 c5 c6 c7 c8
    go_wp2_with fail
    go_ret
    exact ⟨rfl, K3.out⟩
  rw [h5] at PS
  rw [Bool.true_and]
  clear h5
  generalize ptB m.d0 m.d1 = b6 at *
  unfold mtV
  go_enter Tryd.func26, Tryd.ntmps26
  go_wp2_with fail
  refine (VS.out _).mono ?_
  rintro e w1 ⟨rfl, k1⟩
  have M1 := Lib.hid (M0.out.no k1)
  have K1 := Lib.hid (K0.out.trans_no k1)
  clear k1
  obtain ⟨c0, c1, c2, c3, c4, c5, c6, c7, c8⟩ := M1.out.c
  go_wp2_with fail
  refine (VD.out _).mono ?_
  rintro e w2 ⟨rfl, k2⟩
  have M2 := Lib.hid (M1.out.no k2)
  have K2 := Lib.hid (K1.out.trans_no k2)
  clear k2
  clear c0 c1 c2 c3 c4 c5 c6 c7 c8
  obtain ⟨c0, c1, c2, c3, c4, c5, c6, c7, c8⟩ := M2.out.c
  go_wp2_with fail
  refine (PS.out _).mono ?_
  rintro e w3 ⟨rfl, k3⟩
  have M3 := Lib.hid (M2.out.no k3)
  have K3 := Lib.hid (K2.out.trans_no k3)
  clear k3
  clear c0 c1 c2 c3 c4 c5 c6 c7 c8
  obtain ⟨c0, c1, c2, c3, c4, c5, c6, c7, c8⟩ := M3.out.c
  go_wp2_with fail
  refine (PD.out _).mono ?_
  rintro e w4 ⟨rfl, k4⟩
  have M4 := Lib.hid (M3.out.no k4)
  have K4 := Lib.hid (K3.out.trans_no k4)
  clear k4
  clear c0 c1 c2 c3 c4 c5 c6 c7 c8
  go_wp2_with fail
  go_ret
  exact ⟨rfl, K4.out⟩

end Go.Proofs.YtohinonkfhkclaaDoor

namespace Go.Proofs.YtohinonkfhkclaaDoor
open Go.RowKit

/-- The packets of a match. -/
def mkB (m : Mt) (z : Pkt) : Bool := ctB m.sa m.sl z.src && (ctB m.da m.dl z.dst && ((m.pr == -1 || m.pr == z.proto) && (inB m.s0 m.s1 z.sport && inB m.d0 m.d1 z.dport)))

end Go.Proofs.YtohinonkfhkclaaDoor

namespace Go.Proofs.YtohinonkfhkclaaDoor
open Go.RowKit

def mf1 (m : Mt) (nx : Bool) : Bfn := fun a => wiF 0 nx m.sa (ntN (mkN (clI m.sl))) 32 a && wiF 1 nx m.da (ntN (mkN (clI m.dl))) 32 a
def mf2 (m : Mt) (nx : Bool) : Bfn := fun a => mf1 m nx a && rgF 2 nx (u32 m.pr) (u32 m.pr) a
def mfx (m : Mt) (nx : Bool) : Bfn := if 0 ≤ m.pr then mf2 m nx else mf1 m nx
def mf3 (m : Mt) (nx : Bool) : Bfn := fun a => mfx m nx a && rgF 3 nx (u32 m.s0) (u32 m.s1) a
/-- The packets of a match, as a function. -/
def mtF (m : Mt) (nx : Bool) : Bfn := fun a => mf3 m nx a && rgF 4 nx (u32 m.d0) (u32 m.d1) a

theorem u32_cast (x : Int) : ((u32 x : Nat) : Int) = x % 4294967296 := by unfold u32; omega

section
variable (m : Mt) (nx : Bool)
theorem wiF_rd' (k : Nat) (hk : k < 2) (ad ma : Nat) : Rd (fvar k 0 nx) (fend k) (wiF k nx ad ma 32) := by
  have hf : fw k = 32 := by rcases (show k = 0 ∨ k = 1 by omega) with rfl | rfl <;> rfl
  have := wiF_rd (k := k) (nx := nx) ad ma 32 (by omega)
  rw [show fw k - 32 = 0 by omega] at this
  exact this
theorem mf1_rd : Rd 12 140 (mf1 m nx) := Rd.op (fun x y => x && y) ((wiF_rd' nx 0 (by omega) _ _).mono (by rw [fvar_eq]; show 12 ≤ 12 + 2 * (0 + 0) + _; omega) (by decide)) ((wiF_rd' nx 1 (by omega) _ _).mono (by rw [fvar_eq]; show 12 ≤ 12 + 2 * (32 + 0) + _; omega) (by decide))
theorem mf1_st : PSt 220 (mf1 m nx) 200 :=
  (PSt.and_above (wiF_rd' nx 0 (by omega) _ _) (wiF_rd' nx 1 (by omega) _ _) (by rw [fvar_eq]; show 12 + 2 * (0 + 32) ≤ 12 + 2 * (32 + 0) + _; omega) (by decide) (by decide) (wiF_st (by omega) _ _ 32 (by decide)) (wiF_st (by omega) _ _ 32 (by decide))).mono (by omega)
theorem mf2_rd : Rd 12 156 (mf2 m nx) := Rd.op (fun x y => x && y) ((mf1_rd m nx).mono (by omega) (by omega)) ((rgF_rd (k := 2) (nx := nx) _ _).mono (by rw [fvar_eq]; show 12 ≤ 12 + 2 * (64 + 0) + _; omega) (by decide))
theorem mf2_st : PSt 220 (mf2 m nx) 10300 :=
  (PSt.and_above (mf1_rd m nx) (rgF_rd (k := 2) (nx := nx) _ _) (by rw [fvar_eq]; show 140 ≤ 12 + 2 * (64 + 0) + _; omega) (by decide) (by decide) (mf1_st m nx) (rgF_st (by omega) _ _)).mono (by omega)
theorem mfx_rd : Rd 12 156 (mfx m nx) := by
  unfold mfx; split
  · exact mf2_rd m nx
  · exact (mf1_rd m nx).mono (by omega) (by omega)
theorem mfx_st : PSt 220 (mfx m nx) 10300 := by
  unfold mfx; split
  · exact mf2_st m nx
  · exact (mf1_st m nx).mono (by omega)
theorem mf3_rd : Rd 12 188 (mf3 m nx) := Rd.op (fun x y => x && y) ((mfx_rd m nx).mono (by omega) (by omega)) ((rgF_rd (k := 3) (nx := nx) _ _).mono (by rw [fvar_eq]; show 12 ≤ 12 + 2 * (72 + 0) + _; omega) (by decide))
theorem mf3_st : PSt 220 (mf3 m nx) 20400 :=
  (PSt.and_above (mfx_rd m nx) (rgF_rd (k := 3) (nx := nx) _ _) (by rw [fvar_eq]; show 156 ≤ 12 + 2 * (72 + 0) + _; omega) (by decide) (by decide) (mfx_st m nx) (rgF_st (by omega) _ _)).mono (by omega)
theorem mtF_rd : Rd 12 220 (mtF m nx) := Rd.op (fun x y => x && y) ((mf3_rd m nx).mono (by omega) (by omega)) ((rgF_rd (k := 4) (nx := nx) _ _).mono (by rw [fvar_eq]; show 12 ≤ 12 + 2 * (88 + 0) + _; omega) (by decide))
theorem mtF_st : PSt 220 (mtF m nx) 30500 :=
  (PSt.and_above (mf3_rd m nx) (rgF_rd (k := 4) (nx := nx) _ _) (by rw [fvar_eq]; show 188 ≤ 12 + 2 * (88 + 0) + _; omega) (by decide) (by decide) (mf3_st m nx) (rgF_st (by omega) _ _)).mono (by omega)
end

theorem mtB_true {m : Mt} (h : mtB m = true) : pvB m.sa m.sl = true ∧ pvB m.da m.dl = true ∧ (-1 ≤ m.pr ∧ m.pr ≤ 255) ∧ (0 ≤ m.s0 ∧ m.s0 ≤ m.s1 ∧ m.s1 ≤ 65535) ∧ (0 ≤ m.d0 ∧ m.d0 ≤ m.d1 ∧ m.d1 ≤ 65535) := by
  unfold mtB ptB at h
  simp only [Bool.and_eq_true, decide_eq_true_eq] at h
  exact ⟨h.1, h.2.1, ⟨h.2.2.1, h.2.2.2.1⟩, h.2.2.2.2.1, h.2.2.2.2.2⟩

/-- 'Range' with converted bounds. -/
theorem Range_conv {p c : Nat} {M : Mgr} {L : Lay} {B : List (Int × Bfn)} (k : Nat) (hk : k < 5) (nx : Bool) (lo hi : Int) (h0 : 0 ≤ lo ∧ lo < 4294967296) (h1 : 0 ≤ hi ∧ hi < 4294967296) {w : World} (h : Hf w p L 220 c w M L B) (hc : c ≤ 500000000000) :
    Calls Tryd.prog 22 #[ptr p, .int .i64 (k : Int), .bool nx, .int .u32 lo, .int .u32 hi] w (OpQ p 220 (c + 10000000) L w (rgF k nx (u32 lo) (u32 hi)) B) := by
  have := Range_ok k hk nx (u32 lo) (u32 hi) (u32_lt _) (u32_lt _) h.rep h.qk h.gl h.off hc
  rw [u32_cast, u32_cast, show lo % 4294967296 = lo by omega, show hi % 4294967296 = hi by omega] at this
  exact this

set_option maxRecDepth 100000 in
set_option maxHeartbeats 4000000 in
theorem Match_ok {p c : Nat} {M : Mgr} {L : Lay} {B : List (Int × Bfn)} (m : Mt) (h32 : m.in32) (hm : mtB m = true) (nx : Bool) {w : World} (R : Rep w p M L) (q : Qk 220 c M B) (g : Gl w) (ho : ¬ L.at p 0) (hc : c ≤ 400000000000) :
    Calls Tryd.prog 27 #[ptr p, .bool nx, mtV m] w (OpQ p 220 (c + 100000000) L w (mtF m nx) B) := by
  have VM := Lib.hid (fun (y : World) => ValidMatch_ok m y)
  rw [hm] at VM
  obtain ⟨hvs, hvd, bp, bs, bd⟩ := mtB_true hm
  have M0 := Lib.hid (MtAt.new w m)
  have KA := Lib.hid (Kp.alloc (w := w) (.cells #[.int .u32 (m.sa : Int), .int .i64 m.sl, .int .u32 (m.da : Int), .int .i64 m.dl, .int .i64 m.pr, .int .i64 m.s0, .int .i64 m.s1, .int .i64 m.d0, .int .i64 m.d1] 46))
  have NB : Hid (¬ L.at p w.heap.size) := Lib.hid (fun h => by have := R.lt _ h; omega)
  have H0 : Hid (Hf (w.alloc (.cells #[.int .u32 (m.sa : Int), .int .i64 m.sl, .int .u32 (m.da : Int), .int .i64 m.dl, .int .i64 m.pr, .int .i64 m.s0, .int .i64 m.s1, .int .i64 m.d0, .int .i64 m.d1] 46)) p L 220 c (w.alloc (.cells #[.int .u32 (m.sa : Int), .int .i64 m.sl, .int .u32 (m.da : Int), .int .i64 m.dl, .int .i64 m.pr, .int .i64 m.s0, .int .i64 m.s1, .int .i64 m.d0, .int .i64 m.d1] 46)) M L B) := Lib.hid (Hf.start (R.no (Kp.alloc _)) q (g.no (Kp.alloc _)) ho)
  have PS : Hid (∀ (c : Nat) (M : Mgr) (L : Lay) (B : List (Int × Bfn)) (y : World), Hf y p L 220 c y M L B → c ≤ 500000000000 → Calls Tryd.prog 58 #[ptr p, .int .i64 0, .bool nx, .agg #[.int .u32 (m.sa : Int), .int .i64 m.sl]] y (OpQ p 220 (c + 10000000) L y (wiF 0 nx m.sa (ntN (mkN (clI m.sl))) 32) B)) := Lib.hid (fun c M L B y h hc => Prefix_ok 0 (by omega) nx m.sa m.sl h32.h0 hvs h.rep h.qk h.gl h.off hc)
  have PD : Hid (∀ (c : Nat) (M : Mgr) (L : Lay) (B : List (Int × Bfn)) (y : World), Hf y p L 220 c y M L B → c ≤ 500000000000 → Calls Tryd.prog 58 #[ptr p, .int .i64 1, .bool nx, .agg #[.int .u32 (m.da : Int), .int .i64 m.dl]] y (OpQ p 220 (c + 10000000) L y (wiF 1 nx m.da (ntN (mkN (clI m.dl))) 32) B)) := Lib.hid (fun c M L B y h hc => Prefix_ok 1 (by omega) nx m.da m.dl h32.h1 hvd h.rep h.qk h.gl h.off hc)
  have RP := Lib.hid (fun (c : Nat) (M : Mgr) (L : Lay) (B : List (Int × Bfn)) (y : World) (h : Hf y p L 220 c y M L B) (hc : c ≤ 500000000000) (h0 : 0 ≤ m.pr) => Range_conv 2 (by omega) nx m.pr m.pr (by omega) (by omega) h hc)
  have RS := Lib.hid (fun (c : Nat) (M : Mgr) (L : Lay) (B : List (Int × Bfn)) (y : World) (h : Hf y p L 220 c y M L B) (hc : c ≤ 500000000000) => Range_conv 3 (by omega) nx m.s0 m.s1 (by omega) (by omega) h hc)
  have RD := Lib.hid (fun (c : Nat) (M : Mgr) (L : Lay) (B : List (Int × Bfn)) (y : World) (h : Hf y p L 220 c y M L B) (hc : c ≤ 500000000000) => Range_conv 4 (by omega) nx m.d0 m.d1 (by omega) (by omega) h hc)
  have S1 := Lib.hid (mf1_st m nx)
  have S2 := Lib.hid (mf2_st m nx)
  have S3 := Lib.hid (mf3_st m nx)
  have S4 := Lib.hid (mtF_st m nx)
  have MX : Hid ((0 ≤ m.pr → mfx m nx = mf2 m nx) ∧ (¬ 0 ≤ m.pr → mfx m nx = mf1 m nx)) := Lib.hid ⟨fun h => by unfold mfx; rw [if_pos h], fun h => by unfold mfx; rw [if_neg h]⟩
  have CM : Hid (∀ y, Kp (L.at p) (w.alloc (.cells #[.int .u32 (m.sa : Int), .int .i64 m.sl, .int .u32 (m.da : Int), .int .i64 m.dl, .int .i64 m.pr, .int .i64 m.s0, .int .i64 m.s1, .int .i64 m.d0, .int .i64 m.d1] 46)) y → MtAt y w.heap.size m) := Lib.hid (fun y k => M0.out.kp k NB.out)
  have CK : Hid (∀ y, Kp (L.at p) (w.alloc (.cells #[.int .u32 (m.sa : Int), .int .i64 m.sl, .int .u32 (m.da : Int), .int .i64 m.dl, .int .i64 m.pr, .int .i64 m.s0, .int .i64 m.s1, .int .i64 m.d0, .int .i64 m.d1] 46)) y → y.cell? ⟨w.heap.size, 0, none⟩ = some (.int .u32 (m.sa : Int)) ∧ y.cell? ⟨w.heap.size, 1, none⟩ = some (.int .i64 m.sl) ∧ y.cell? ⟨w.heap.size, 2, none⟩ = some (.int .u32 (m.da : Int)) ∧ y.cell? ⟨w.heap.size, 3, none⟩ = some (.int .i64 m.dl)) := Lib.hid (fun y k => by have t := (CM.out y k).c; exact ⟨t.c0, t.c1, t.c2, t.c3⟩)
  have CC := Lib.hid hc
  obtain ⟨bs0, bs1, bs2⟩ := bs
  obtain ⟨bd0, bd1, bd2⟩ := bd
  obtain ⟨bp0, bp1⟩ := bp
  have bs3 : 0 ≤ m.s1 := by omega
  have bs4 : m.s0 ≤ 65535 := by omega
  have bd3 : 0 ≤ m.d1 := by omega
  have bd4 : m.d0 ≤ 65535 := by omega
  unfold mtV
  clear R q g ho hm h32 hvs hvd hc
  go_enter Tryd.func27, Tryd.ntmps27
  obtain ⟨c0, c1, c2, c3, c4, c5, c6, c7, c8⟩ := M0.out.c
  go_wp2_with fail
  refine (VM.out _).mono ?_
  rintro e w1 ⟨rfl, k1⟩
  generalize hwA : w.alloc (.cells #[.int .u32 (m.sa : Int), .int .i64 m.sl, .int .u32 (m.da : Int), .int .i64 m.dl, .int .i64 m.pr, .int .i64 m.s0, .int .i64 m.s1, .int .i64 m.d0, .int .i64 m.d1] 46) = wA at *
  have HD := Lib.hid ((H0.out.no k1).no Kp.drew)
  have S0 := Lib.hid (CK.out _ HD.out.sd.kp)
  have PSD := Lib.hid (PS.out _ _ _ _ _ HD.out.rebase (by have := CC.out; omega))
  clear k1 c0 c1 c2 c3 c4 c5 c6 c7 c8
  go_upto_region 3 with (fail)
  go_region_held3 (fun y => y.cell? ⟨w.heap.size, 0, none⟩ = some (.int .u32 (m.sa : Int)) ∧ y.cell? ⟨w.heap.size, 1, none⟩ = some (.int .i64 m.sl) ∧ y.cell? ⟨w.heap.size, 2, none⟩ = some (.int .u32 (m.da : Int)) ∧ y.cell? ⟨w.heap.size, 3, none⟩ = some (.int .i64 m.dl)) (first | exact S0.out | exact SA.out | exact SB.out | exact SC.out)
    (first | (go_at_call 58; (first | ((with_reducible refine PDA.out.mono ?_); intro e wb hb; obtain ⟨r2, M2, L2, rfl, _, f2⟩ := HA.out.step hb; have HB := Lib.hid f2; have SB := Lib.hid (CK.out _ f2.sd.kp); have AN := Lib.hid (AndQ f2.rep f2.qk (.tail _ (.head _)) (.head _) S1.out (by have := CC.out; omega)); clear hb f2) | ((with_reducible refine PSD.out.mono ?_); intro e wa ha; obtain ⟨r1, M1, L1, rfl, _, f1⟩ := HD.out.step ha; have HA := Lib.hid f1; have SA := Lib.hid (CK.out _ f1.sd.kp); have PDA := Lib.hid (PD.out _ _ _ _ _ f1.rebase (by have := CC.out; omega)); clear ha f1))) | (go_at_call 24; (with_reducible refine AN.out.mono ?_); intro e wc hcc; obtain ⟨r3, M3, L3, rfl, _, f3⟩ := HB.out.step hcc; have HC := Lib.hid f3; have SC := Lib.hid (CK.out _ f3.sd.kp); clear hcc f3))
  all_goals
    clear S0 SA SB SC PSD PDA AN HA HB HD PS PD
    have H3 : Hid (Hf wA p L 220 (c + 30000000) wc M3 L3 ((r3, mf1 m nx) :: B)) := Lib.hid ((HC.out.sub (B' := (r3, _) :: B) (fun x hx => by
      rcases List.mem_cons.1 hx with rfl | hx
      · exact .head _
      · exact .tail _ (.tail _ (.tail _ hx)))).mono (by omega))
    clear HC
    obtain ⟨c0, c1, c2, c3, c4, c5, c6, c7, c8⟩ := (CM.out _ H3.out.sd.kp).c
    by_cases hpr : 0 ≤ m.pr
    · have MXE := Lib.hid (MX.out.1 hpr)
      go_wp2_with fail
      refine (RP.out _ _ _ _ _ H3.out.rebase (by have := CC.out; omega) hpr).mono ?_
      intro e w4 h4
      obtain ⟨r4, M4, L4, rfl, _, f4⟩ := H3.out.step h4
      have H4 := Lib.hid f4
      clear h4 f4 H3 c0 c1 c2 c3 c4 c5 c6 c7 c8
      go_wp2_with fail
      refine (AndQ H4.out.rep H4.out.qk (.tail _ (.head _)) (.head _) S2.out (by have := CC.out; omega)).mono ?_
      intro e w5 h5
      obtain ⟨r5, M5, L5, rfl, _, f5⟩ := H4.out.step h5
      have H5 : Hid (Hf wA p L 220 (c + 50000000) w5 M5 L5 ((r5, mfx m nx) :: B)) := Lib.hid (((f5.sub (B' := (r5, _) :: B) (fun x hx => by
        rcases List.mem_cons.1 hx with rfl | hx
        · exact .head _
        · exact .tail _ (.tail _ (.tail _ hx)))).mono (by omega)).cong (G := mfx m nx) (fun a => by rw [MXE.out]; rfl))
      clear h5 f5 H4
      obtain ⟨c0, c1, c2, c3, c4, c5, c6, c7, c8⟩ := (CM.out _ H5.out.sd.kp).c
      go_wp2_with fail
      refine (RS.out _ _ _ _ _ H5.out.rebase (by have := CC.out; omega)).mono ?_
      intro e w6 h6
      obtain ⟨r6, M6, L6, rfl, _, f6⟩ := H5.out.step h6
      have H6 := Lib.hid f6
      clear h6 f6 H5 c0 c1 c2 c3 c4 c5 c6 c7 c8
      go_wp2_with fail
      refine (AndQ H6.out.rep H6.out.qk (.tail _ (.head _)) (.head _) S3.out (by have := CC.out; omega)).mono ?_
      intro e w7 h7
      obtain ⟨r7, M7, L7, rfl, _, f7⟩ := H6.out.step h7
      have H7 : Hid (Hf wA p L 220 (c + 70000000) w7 M7 L7 ((r7, mf3 m nx) :: B)) := Lib.hid ((f7.sub (B' := (r7, _) :: B) (fun x hx => by
        rcases List.mem_cons.1 hx with rfl | hx
        · exact .head _
        · exact .tail _ (.tail _ (.tail _ hx)))).mono (by omega))
      clear h7 f7 H6
      obtain ⟨c0, c1, c2, c3, c4, c5, c6, c7, c8⟩ := (CM.out _ H7.out.sd.kp).c
      go_wp2_with fail
      refine (RD.out _ _ _ _ _ H7.out.rebase (by have := CC.out; omega)).mono ?_
      intro e w8 h8
      obtain ⟨r8, M8, L8, rfl, _, f8⟩ := H7.out.step h8
      have H8 := Lib.hid f8
      clear h8 f8 H7 c0 c1 c2 c3 c4 c5 c6 c7 c8
      go_wp2_with fail
      refine (AndQ H8.out.rep H8.out.qk (.tail _ (.head _)) (.head _) S4.out (by have := CC.out; omega)).mono ?_
      intro e w9 h9
      obtain ⟨r9, M9, L9, rfl, _, f9⟩ := H8.out.step h9
      have FIN : Hid (OpQ p 220 (c + 100000000) L w (mtF m nx) B (.returned (.int .i64 r9)) w9) := Lib.hid (OpQ.before KA.out (f9.ret (.head _) (fun x hx => .tail _ (.tail _ (.tail _ hx))) (by omega)))
      clear h9 f9 H8
      go_wp2_with fail
      go_ret
      exact FIN.out
    · have MXE := Lib.hid (MX.out.2 (by omega))
      have H5 : Hid (Hf wA p L 220 (c + 50000000) wc M3 L3 ((r3, mfx m nx) :: B)) := Lib.hid ((H3.out.mono (by omega)).cong (G := mfx m nx) (fun a => by rw [MXE.out]))
      clear H3
      go_wp2_with fail
      refine (RS.out _ _ _ _ _ H5.out.rebase (by have := CC.out; omega)).mono ?_
      intro e w6 h6
      obtain ⟨r6, M6, L6, rfl, _, f6⟩ := H5.out.step h6
      have H6 := Lib.hid f6
      clear h6 f6 H5 c0 c1 c2 c3 c4 c5 c6 c7 c8
      go_wp2_with fail
      refine (AndQ H6.out.rep H6.out.qk (.tail _ (.head _)) (.head _) S3.out (by have := CC.out; omega)).mono ?_
      intro e w7 h7
      obtain ⟨r7, M7, L7, rfl, _, f7⟩ := H6.out.step h7
      have H7 : Hid (Hf wA p L 220 (c + 70000000) w7 M7 L7 ((r7, mf3 m nx) :: B)) := Lib.hid ((f7.sub (B' := (r7, _) :: B) (fun x hx => by
        rcases List.mem_cons.1 hx with rfl | hx
        · exact .head _
        · exact .tail _ (.tail _ (.tail _ hx)))).mono (by omega))
      clear h7 f7 H6
      obtain ⟨c0, c1, c2, c3, c4, c5, c6, c7, c8⟩ := (CM.out _ H7.out.sd.kp).c
      go_wp2_with fail
      refine (RD.out _ _ _ _ _ H7.out.rebase (by have := CC.out; omega)).mono ?_
      intro e w8 h8
      obtain ⟨r8, M8, L8, rfl, _, f8⟩ := H7.out.step h8
      have H8 := Lib.hid f8
      clear h8 f8 H7 c0 c1 c2 c3 c4 c5 c6 c7 c8
      go_wp2_with fail
      refine (AndQ H8.out.rep H8.out.qk (.tail _ (.head _)) (.head _) S4.out (by have := CC.out; omega)).mono ?_
      intro e w9 h9
      obtain ⟨r9, M9, L9, rfl, _, f9⟩ := H8.out.step h9
      have FIN : Hid (OpQ p 220 (c + 100000000) L w (mtF m nx) B (.returned (.int .i64 r9)) w9) := Lib.hid (OpQ.before KA.out (f9.ret (.head _) (fun x hx => .tail _ (.tail _ (.tail _ hx))) (by omega)))
      clear h9 f9 H8
      go_wp2_with fail
      go_ret
      exact FIN.out

end Go.Proofs.YtohinonkfhkclaaDoor
