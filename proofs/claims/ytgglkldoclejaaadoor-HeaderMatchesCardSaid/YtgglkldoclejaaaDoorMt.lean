/-
  Walks: matches: 'ports', 'within' of the laws; 'validPorts', 'ValidMatch', 'In' of the package header.
-/
import Derived.Test.YtgglkldoclejaaaDoorHpm
namespace Go.Proofs.YtgglkldoclejaaaDoor
open Go.RowKit

def ptB (lo hi : Int) : Bool := decide (0 ≤ lo) && (decide (lo ≤ hi) && decide (hi ≤ 65535))

set_option maxRecDepth 100000 in
theorem ports_ok (lo hi : Int) (w : World) : Calls Tryd.prog 41 #[.agg #[.int .i64 lo, .int .i64 hi]] w fun e w' => e = .returned (.bool (ptB lo hi)) ∧ Kp No w w' := by
  unfold ptB
  by_cases h0 : 0 ≤ lo
  case neg =>
    rw [decide_eq_false h0, Bool.false_and]
    go_enter Tryd.func41, Tryd.ntmps41
    go_wp2_with fail
    go_ret
    exact ⟨rfl, Kp.alloc _⟩
  rw [decide_eq_true h0, Bool.true_and]
  by_cases h1 : lo ≤ hi
  case neg =>
    rw [decide_eq_false h1, Bool.false_and]
    go_enter Tryd.func41, Tryd.ntmps41
    go_wp2_with fail
    go_ret
    exact ⟨rfl, Kp.alloc _⟩
  rw [decide_eq_true h1, Bool.true_and]
  by_cases h2 : hi ≤ 65535
  case neg =>
    rw [decide_eq_false h2]
    go_enter Tryd.func41, Tryd.ntmps41
    go_wp2_with fail
    go_ret
    exact ⟨rfl, Kp.alloc _⟩
  rw [decide_eq_true h2]
  go_enter Tryd.func41, Tryd.ntmps41
  go_wp2_with fail
  go_ret
  exact ⟨rfl, Kp.alloc _⟩

set_option maxRecDepth 100000 in
theorem validPorts_ok (lo hi : Int) (w : World) : Calls Tryd.prog 68 #[.agg #[.int .i64 lo, .int .i64 hi]] w fun e w' => e = .returned (.bool (ptB lo hi)) ∧ Kp No w w' := by
  unfold ptB
  by_cases h0 : 0 ≤ lo
  case neg =>
    rw [decide_eq_false h0, Bool.false_and]
    go_enter Tryd.func68, Tryd.ntmps68
    go_wp2_with fail
    go_ret
    exact ⟨rfl, Kp.alloc _⟩
  rw [decide_eq_true h0, Bool.true_and]
  by_cases h1 : lo ≤ hi
  case neg =>
    rw [decide_eq_false h1, Bool.false_and]
    go_enter Tryd.func68, Tryd.ntmps68
    go_wp2_with fail
    go_ret
    exact ⟨rfl, Kp.alloc _⟩
  rw [decide_eq_true h1, Bool.true_and]
  by_cases h2 : hi ≤ 65535
  case neg =>
    rw [decide_eq_false h2]
    go_enter Tryd.func68, Tryd.ntmps68
    go_wp2_with fail
    go_ret
    exact ⟨rfl, Kp.alloc _⟩
  rw [decide_eq_true h2]
  go_enter Tryd.func68, Tryd.ntmps68
  go_wp2_with fail
  go_ret
  exact ⟨rfl, Kp.alloc _⟩

set_option maxRecDepth 100000 in
theorem within_ok (lo hi n : Int) (w : World) : Calls Tryd.prog 44 #[.agg #[.int .i64 lo, .int .i64 hi], .int .i64 n] w fun e w' => e = .returned (.bool (inB lo hi n)) ∧ Kp No w w' := by
  by_cases h1 : lo ≤ n
  · by_cases h2 : n ≤ hi
    · rw [show inB lo hi n = true from decide_eq_true ⟨h1, h2⟩]
      go_enter Tryd.func44, Tryd.ntmps44
      go_wp2_with fail
      go_ret
      exact ⟨rfl, Kp.alloc _⟩
    · rw [show inB lo hi n = false from decide_eq_false (fun h => h2 h.2)]
      go_enter Tryd.func44, Tryd.ntmps44
      go_wp2_with fail
      go_ret
      exact ⟨rfl, Kp.alloc _⟩
  · rw [show inB lo hi n = false from decide_eq_false (fun h => h1 h.1)]
    go_enter Tryd.func44, Tryd.ntmps44
    go_wp2_with fail
    go_ret
    exact ⟨rfl, Kp.alloc _⟩

structure Mt where
  sa : Nat
  sl : Int
  da : Nat
  dl : Int
  pr : Int
  s0 : Int
  s1 : Int
  d0 : Int
  d1 : Int
def mtV (m : Mt) : Value := .agg #[.int .u32 (m.sa : Int), .int .i64 m.sl, .int .u32 (m.da : Int), .int .i64 m.dl, .int .i64 m.pr, .int .i64 m.s0, .int .i64 m.s1, .int .i64 m.d0, .int .i64 m.d1]
structure Mt.in32 (m : Mt) : Prop where
  h0 : m.sa < 4294967296
  h1 : m.da < 4294967296
  pr : -9223372036854775808 ≤ m.pr ∧ m.pr ≤ 9223372036854775807
  s0 : -9223372036854775808 ≤ m.s0 ∧ m.s0 ≤ 9223372036854775807
  s1 : -9223372036854775808 ≤ m.s1 ∧ m.s1 ≤ 9223372036854775807
  d0 : -9223372036854775808 ≤ m.d0 ∧ m.d0 ≤ 9223372036854775807
  d1 : -9223372036854775808 ≤ m.d1 ∧ m.d1 ≤ 9223372036854775807
def MtAt (x : World) (b : Nat) (m : Mt) : Prop := x.heap[b]? = some (.cells #[.int .u32 (m.sa : Int), .int .i64 m.sl, .int .u32 (m.da : Int), .int .i64 m.dl, .int .i64 m.pr, .int .i64 m.s0, .int .i64 m.s1, .int .i64 m.d0, .int .i64 m.d1] 66 (0, 0))
structure MtC (x : World) (b : Nat) (m : Mt) : Prop where
  c0 : x.cell? ⟨b, 0, none⟩ = some (.int .u32 (m.sa : Int))
  c1 : x.cell? ⟨b, 1, none⟩ = some (.int .i64 m.sl)
  c2 : x.cell? ⟨b, 2, none⟩ = some (.int .u32 (m.da : Int))
  c3 : x.cell? ⟨b, 3, none⟩ = some (.int .i64 m.dl)
  c4 : x.cell? ⟨b, 4, none⟩ = some (.int .i64 m.pr)
  c5 : x.cell? ⟨b, 5, none⟩ = some (.int .i64 m.s0)
  c6 : x.cell? ⟨b, 6, none⟩ = some (.int .i64 m.s1)
  c7 : x.cell? ⟨b, 7, none⟩ = some (.int .i64 m.d0)
  c8 : x.cell? ⟨b, 8, none⟩ = some (.int .i64 m.d1)
section
variable {x y : World} {b : Nat} {m : Mt}
theorem MtAt.c (h : MtAt x b m) : MtC x b m := by
  constructor <;> (rw [cell_of_row _ _ _ _ _ _ h]; rfl)
theorem MtAt.lt (h : MtAt x b m) : b < x.heap.size := heap_lt h
theorem MtAt.kp {A : Nat → Prop} (h : MtAt x b m) (k : Kp A x y) (hn : ¬ A b) : MtAt y b m := by unfold MtAt; rw [k.block _ h.lt hn]; exact h
theorem MtAt.no (h : MtAt x b m) (k : Kp No x y) : MtAt y b m := h.kp k (fun x => x)
theorem MtAt.new (w : World) (m : Mt) : MtAt (w.alloc (.cells #[.int .u32 (m.sa : Int), .int .i64 m.sl, .int .u32 (m.da : Int), .int .i64 m.dl, .int .i64 m.pr, .int .i64 m.s0, .int .i64 m.s1, .int .i64 m.d0, .int .i64 m.d1] 66)) w.heap.size m := heap_alloc_new _ _
end

def mtB (m : Mt) : Bool := pvB m.sa m.sl && (pvB m.da m.dl && (decide (-1 ≤ m.pr) && (decide (m.pr ≤ 255) && (ptB m.s0 m.s1 && ptB m.d0 m.d1))))

set_option maxRecDepth 100000 in
set_option maxHeartbeats 2000000 in
theorem ValidMatch_ok (m : Mt) (w : World) : Calls Tryd.prog 43 #[mtV m] w fun e w' => e = .returned (.bool (mtB m)) ∧ Kp No w w' := by
  have VS := Lib.hid (fun (y : World) => Valid_ok m.sa m.sl y)
  have VD := Lib.hid (fun (y : World) => Valid_ok m.da m.dl y)
  have PS := Lib.hid (fun (y : World) => validPorts_ok m.s0 m.s1 y)
  have PD := Lib.hid (fun (y : World) => validPorts_ok m.d0 m.d1 y)
  have M0 := Lib.hid (MtAt.new w m)
  have K0 := Lib.hid (Kp.alloc (w := w) (.cells #[.int .u32 (m.sa : Int), .int .i64 m.sl, .int .u32 (m.da : Int), .int .i64 m.dl, .int .i64 m.pr, .int .i64 m.s0, .int .i64 m.s1, .int .i64 m.d0, .int .i64 m.d1] 66))
  unfold mtB
  cases h1 : pvB m.sa m.sl
  · rw [h1] at VS
    rw [Bool.false_and]
    clear h1
    unfold mtV
    go_enter Tryd.func43, Tryd.ntmps43
    go_wp2_with fail
    refine (VS.out _).mono ?_
    rintro e w1 ⟨rfl, k1⟩
    have M1 := Lib.hid (M0.out.no k1)
    have K1 := Lib.hid (K0.out.trans_no k1)
    clear k1
    go_wp2_with fail
    go_ret
    exact ⟨rfl, K1.out⟩
  rw [h1] at VS
  rw [Bool.true_and]
  clear h1
  cases h2 : pvB m.da m.dl
  · rw [h2] at VD
    rw [Bool.false_and]
    clear h2
    unfold mtV
    go_enter Tryd.func43, Tryd.ntmps43
    go_wp2_with fail
    refine (VS.out _).mono ?_
    rintro e w1 ⟨rfl, k1⟩
    have M1 := Lib.hid (M0.out.no k1)
    have K1 := Lib.hid (K0.out.trans_no k1)
    clear k1
    obtain ⟨c0, c1, c2, c3, c4, c5, c6, c7, c8⟩ := M1.out.c
    go_wp2_with fail
    refine (VD.out _).mono ?_
    rintro e w2 ⟨rfl, k2⟩
    have M2 := Lib.hid (M1.out.no k2)
    have K2 := Lib.hid (K1.out.trans_no k2)
    clear k2
    clear c0 c1 c2 c3 c4 c5 c6 c7 c8
    obtain ⟨c0, c1, c2, c3, c4, c5, c6, c7, c8⟩ := M2.out.c
    go_wp2_with fail
    go_ret
    exact ⟨rfl, K2.out⟩
  rw [h2] at VD
  rw [Bool.true_and]
  clear h2
  by_cases h3 : -1 ≤ m.pr
  case neg =>
    rw [decide_eq_false h3, Bool.false_and]
    unfold mtV
    go_enter Tryd.func43, Tryd.ntmps43
    go_wp2_with fail
    refine (VS.out _).mono ?_
    rintro e w1 ⟨rfl, k1⟩
    have M1 := Lib.hid (M0.out.no k1)
    have K1 := Lib.hid (K0.out.trans_no k1)
    clear k1
    obtain ⟨c0, c1, c2, c3, c4, c5, c6, c7, c8⟩ := M1.out.c
    go_wp2_with fail
    refine (VD.out _).mono ?_
    rintro e w2 ⟨rfl, k2⟩
    have M2 := Lib.hid (M1.out.no k2)
    have K2 := Lib.hid (K1.out.trans_no k2)
    clear k2
    clear c0 c1 c2 c3 c4 c5 c6 c7 c8
    obtain ⟨c0, c1, c2, c3, c4, c5, c6, c7, c8⟩ := M2.out.c
    go_wp2_with fail
    go_ret
    exact ⟨rfl, K2.out⟩
  rw [decide_eq_true h3, Bool.true_and]
  by_cases h4 : m.pr ≤ 255
  case neg =>
    rw [decide_eq_false h4, Bool.false_and]
    unfold mtV
    go_enter Tryd.func43, Tryd.ntmps43
    go_wp2_with fail
    refine (VS.out _).mono ?_
    rintro e w1 ⟨rfl, k1⟩
    have M1 := Lib.hid (M0.out.no k1)
    have K1 := Lib.hid (K0.out.trans_no k1)
    clear k1
    obtain ⟨c0, c1, c2, c3, c4, c5, c6, c7, c8⟩ := M1.out.c
    go_wp2_with fail
    refine (VD.out _).mono ?_
    rintro e w2 ⟨rfl, k2⟩
    have M2 := Lib.hid (M1.out.no k2)
    have K2 := Lib.hid (K1.out.trans_no k2)
    clear k2
    clear c0 c1 c2 c3 c4 c5 c6 c7 c8
    obtain ⟨c0, c1, c2, c3, c4, c5, c6, c7, c8⟩ := M2.out.c
    go_wp2_with fail
    go_ret
    exact ⟨rfl, K2.out⟩
  rw [decide_eq_true h4, Bool.true_and]
  cases h5 : ptB m.s0 m.s1
  · rw [h5] at PS
    rw [Bool.false_and]
    clear h5
    unfold mtV
    go_enter Tryd.func43, Tryd.ntmps43
    go_wp2_with fail
    refine (VS.out _).mono ?_
    rintro e w1 ⟨rfl, k1⟩
    have M1 := Lib.hid (M0.out.no k1)
    have K1 := Lib.hid (K0.out.trans_no k1)
    clear k1
    obtain ⟨c0, c1, c2, c3, c4, c5, c6, c7, c8⟩ := M1.out.c
    go_wp2_with fail
    refine (VD.out _).mono ?_
    rintro e w2 ⟨rfl, k2⟩
    have M2 := Lib.hid (M1.out.no k2)
    have K2 := Lib.hid (K1.out.trans_no k2)
    clear k2
    clear c0 c1 c2 c3 c4 c5 c6 c7 c8
    obtain ⟨c0, c1, c2, c3, c4, c5, c6, c7, c8⟩ := M2.out.c
    go_wp2_with fail
    refine (PS.out _).mono ?_
    rintro e w3 ⟨rfl, k3⟩
    have M3 := Lib.hid (M2.out.no k3)
    have K3 := Lib.hid (K2.out.trans_no k3)
    clear k3
    clear c0 c1 c2 c3 c4 c5 c6 c7 c8
    go_wp2_with fail
    go_ret
    exact ⟨rfl, K3.out⟩
  rw [h5] at PS
  rw [Bool.true_and]
  clear h5
  generalize ptB m.d0 m.d1 = b6 at *
  unfold mtV
  go_enter Tryd.func43, Tryd.ntmps43
  go_wp2_with fail
  refine (VS.out _).mono ?_
  rintro e w1 ⟨rfl, k1⟩
  have M1 := Lib.hid (M0.out.no k1)
  have K1 := Lib.hid (K0.out.trans_no k1)
  clear k1
  obtain ⟨c0, c1, c2, c3, c4, c5, c6, c7, c8⟩ := M1.out.c
  go_wp2_with fail
  refine (VD.out _).mono ?_
  rintro e w2 ⟨rfl, k2⟩
  have M2 := Lib.hid (M1.out.no k2)
  have K2 := Lib.hid (K1.out.trans_no k2)
  clear k2
  clear c0 c1 c2 c3 c4 c5 c6 c7 c8
  obtain ⟨c0, c1, c2, c3, c4, c5, c6, c7, c8⟩ := M2.out.c
  go_wp2_with fail
  refine (PS.out _).mono ?_
  rintro e w3 ⟨rfl, k3⟩
  have M3 := Lib.hid (M2.out.no k3)
  have K3 := Lib.hid (K2.out.trans_no k3)
  clear k3
  clear c0 c1 c2 c3 c4 c5 c6 c7 c8
  obtain ⟨c0, c1, c2, c3, c4, c5, c6, c7, c8⟩ := M3.out.c
  go_wp2_with fail
  refine (PD.out _).mono ?_
  rintro e w4 ⟨rfl, k4⟩
  have M4 := Lib.hid (M3.out.no k4)
  have K4 := Lib.hid (K3.out.trans_no k4)
  clear k4
  clear c0 c1 c2 c3 c4 c5 c6 c7 c8
  go_wp2_with fail
  go_ret
  exact ⟨rfl, K4.out⟩

end Go.Proofs.YtgglkldoclejaaaDoor
