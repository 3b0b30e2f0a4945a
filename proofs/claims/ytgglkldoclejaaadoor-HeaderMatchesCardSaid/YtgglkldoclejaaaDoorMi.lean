/-
  Walks: 'In' of the package header.
-/
import Derived.Test.YtgglkldoclejaaaDoorMt
import Derived.BigGuard
namespace Go.Proofs.YtgglkldoclejaaaDoor
open Go.RowKit

/-- The packets of a match. -/
def mkB (m : Mt) (z : Pkt) : Bool := ctB m.sa m.sl z.src && (ctB m.da m.dl z.dst && ((m.pr == -1 || m.pr == z.proto) && (inB m.s0 m.s1 z.sport && inB m.d0 m.d1 z.dport)))

set_option maxRecDepth 100000 in
set_option maxHeartbeats 4000000 in
theorem In_ok (m : Mt) (z : Pkt) (hm : mtB m = true) (hz : vpB z = true) (hz32 : z.in32) (w : World) : Calls Tryd.prog 45 #[mtV m, pktV z] w fun e w' => e = .returned (.bool (mkB m z)) ∧ Kp No w w' := by
  have VM := Lib.hid (fun (y : World) => ValidMatch_ok m y)
  rw [hm] at VM
  have VP := Lib.hid (fun (y : World) => ValidPacket_ok z y)
  rw [hz] at VP
  have CS := Lib.hid (fun (y : World) => Contains_ok m.sa m.sl z.src hz32.h0 y)
  have CD := Lib.hid (fun (y : World) => Contains_ok m.da m.dl z.dst hz32.h1 y)
  have M0 := Lib.hid ((MtAt.new w m).no (Kp.alloc (.cells #[.int .u32 (z.src : Int), .int .u32 (z.dst : Int), .int .i64 z.proto, .int .i64 z.sport, .int .i64 z.dport] 29)))
  have P0 := Lib.hid (PkAt.new (w.alloc (.cells #[.int .u32 (m.sa : Int), .int .i64 m.sl, .int .u32 (m.da : Int), .int .i64 m.dl, .int .i64 m.pr, .int .i64 m.s0, .int .i64 m.s1, .int .i64 m.d0, .int .i64 m.d1] 66)) z 29)
  rw [show (w.alloc (.cells #[.int .u32 (m.sa : Int), .int .i64 m.sl, .int .u32 (m.da : Int), .int .i64 m.dl, .int .i64 m.pr, .int .i64 m.s0, .int .i64 m.s1, .int .i64 m.d0, .int .i64 m.d1] 66)).heap.size = w.heap.size + 1 by simp] at P0
  have K0 := Lib.hid ((Kp.alloc (w := w) (.cells #[.int .u32 (m.sa : Int), .int .i64 m.sl, .int .u32 (m.da : Int), .int .i64 m.dl, .int .i64 m.pr, .int .i64 m.s0, .int .i64 m.s1, .int .i64 m.d0, .int .i64 m.d1] 66)).trans_no (Kp.alloc (.cells #[.int .u32 (z.src : Int), .int .u32 (z.dst : Int), .int .i64 z.proto, .int .i64 z.sport, .int .i64 z.dport] 29)))
  unfold mkB
  clear hm hz hz32
  obtain ⟨b3, hb3⟩ : ∃ b, (m.pr == -1 || m.pr == z.proto) = b := ⟨_, rfl⟩
  obtain ⟨b4, hb4⟩ : ∃ b, inB m.s0 m.s1 z.sport = b := ⟨_, rfl⟩
  obtain ⟨b5, hb5⟩ : ∃ b, inB m.d0 m.d1 z.dport = b := ⟨_, rfl⟩
  rw [hb3, hb4, hb5]
  generalize ctB m.sa m.sl z.src = b1 at *
  generalize ctB m.da m.dl z.dst = b2 at *
  obtain ⟨r, hr⟩ : ∃ r, (b1 && (b2 && (b3 && (b4 && b5)))) = r := ⟨_, rfl⟩
  rw [hr]
  have HR := Lib.hid hr
  have H3 := Lib.hid hb3
  have H4 := Lib.hid hb4
  have H5 := Lib.hid hb5
  clear hr hb3 hb4 hb5
  unfold mtV pktV at *
  go_enter Tryd.func45, Tryd.ntmps45
  dsimp only [List.append]
  obtain ⟨c0, c1, c2, c3, c4, c5, c6, c7, c8⟩ := M0.out.c
  obtain ⟨d0, d1, d2, d3, d4⟩ := P0.out
  go_wp2_with fail
  refine (VM.out _).mono ?_
  rintro e w1 ⟨rfl, k1⟩
  have M1 := Lib.hid (M0.out.no k1)
  have P1 := Lib.hid (P0.out.no k1)
  have K1 := Lib.hid (K0.out.trans_no k1)
  clear k1
  clear c0 c1 c2 c3 c4 c5 c6 c7 c8 d0 d1 d2 d3 d4
  obtain ⟨c0, c1, c2, c3, c4, c5, c6, c7, c8⟩ := M1.out.c
  obtain ⟨d0, d1, d2, d3, d4⟩ := P1.out
  go_wp2_with fail
  refine (VP.out _).mono ?_
  rintro e w2 ⟨rfl, k2⟩
  have M2 := Lib.hid (M1.out.no k2)
  have P2 := Lib.hid (P1.out.no k2)
  have K2 := Lib.hid (K1.out.trans_no k2)
  clear k2
  clear c0 c1 c2 c3 c4 c5 c6 c7 c8 d0 d1 d2 d3 d4
  obtain ⟨c0, c1, c2, c3, c4, c5, c6, c7, c8⟩ := M2.out.c
  obtain ⟨d0, d1, d2, d3, d4⟩ := P2.out
  go_wp2_with fail
  refine (CS.out _).mono ?_
  rintro e w3 ⟨rfl, k3⟩
  have M3 := Lib.hid (M2.out.no k3)
  have P3 := Lib.hid (P2.out.no k3)
  have K3 := Lib.hid (K2.out.trans_no k3)
  clear k3
  clear c0 c1 c2 c3 c4 c5 c6 c7 c8 d0 d1 d2 d3 d4
  cases b1
  · obtain ⟨c0, c1, c2, c3, c4, c5, c6, c7, c8⟩ := M3.out.c
    obtain ⟨d0, d1, d2, d3, d4⟩ := P3.out
    go_wp2_with fail
    go_ret
    exact ⟨by rw [← HR.out]; rfl, K3.out⟩
  obtain ⟨c0, c1, c2, c3, c4, c5, c6, c7, c8⟩ := M3.out.c
  obtain ⟨d0, d1, d2, d3, d4⟩ := P3.out
  go_wp2_with fail
  refine (CD.out _).mono ?_
  rintro e w4 ⟨rfl, k4⟩
  have M4 := Lib.hid (M3.out.no k4)
  have P4 := Lib.hid (P3.out.no k4)
  have K4 := Lib.hid (K3.out.trans_no k4)
  clear k4
  clear c0 c1 c2 c3 c4 c5 c6 c7 c8 d0 d1 d2 d3 d4
  cases b2
  · obtain ⟨c0, c1, c2, c3, c4, c5, c6, c7, c8⟩ := M4.out.c
    obtain ⟨d0, d1, d2, d3, d4⟩ := P4.out
    go_wp2_with fail
    go_ret
    exact ⟨by rw [← HR.out]; rfl, K4.out⟩
  obtain ⟨c0, c1, c2, c3, c4, c5, c6, c7, c8⟩ := M4.out.c
  obtain ⟨d0, d1, d2, d3, d4⟩ := P4.out
  cases b3
  · have h3a : (m.pr == -1) = false := by have := H3.out; simp at this ⊢; exact this.1
    have h3b : (m.pr == z.proto) = false := by have := H3.out; simp at this ⊢; exact this.2
    go_wp2_with fail
    go_ret
    exact ⟨by rw [← HR.out]; rfl, K4.out⟩
  by_cases hpr : m.pr = -1
  · have hpr' : (m.pr == -1) = true := by rw [hpr]; rfl
    clear hpr
    by_cases h4 : m.s0 ≤ z.sport
    case neg =>
      obtain rfl : b4 = false := by rw [← H4.out]; exact decide_eq_false (fun h => h4 h.1)
      go_wp2_with fail
      go_ret
      exact ⟨by rw [← HR.out]; rfl, K4.out⟩
    by_cases h5 : z.sport ≤ m.s1
    case neg =>
      obtain rfl : b4 = false := by rw [← H4.out]; exact decide_eq_false (fun h => h5 h.2)
      go_wp2_with fail
      go_ret
      exact ⟨by rw [← HR.out]; rfl, K4.out⟩
    obtain rfl : b4 = true := by rw [← H4.out]; exact decide_eq_true ⟨h4, h5⟩
    by_cases h6 : m.d0 ≤ z.dport
    case neg =>
      obtain rfl : b5 = false := by rw [← H5.out]; exact decide_eq_false (fun h => h6 h.1)
      go_wp2_with fail
      go_ret
      exact ⟨by rw [← HR.out]; rfl, K4.out⟩
    by_cases h7 : z.dport ≤ m.d1
    case neg =>
      obtain rfl : b5 = false := by rw [← H5.out]; exact decide_eq_false (fun h => h7 h.2)
      have H7F := Lib.hid (decide_eq_false h7)
      go_wp2_with fail
      go_ret
      exact ⟨by rw [← HR.out]; show Ending.returned (Value.bool (decide (z.dport ≤ m.d1))) = _; rw [H7F.out]; rfl, K4.out⟩
    obtain rfl : b5 = true := by rw [← H5.out]; exact decide_eq_true ⟨h6, h7⟩
    go_wp2_with fail
    go_ret
    exact ⟨by rw [← HR.out]; rfl, K4.out⟩
  · have hpr' : (m.pr == -1) = false := by simp [hpr]
    have h3 := H3.out
    rw [hpr', Bool.false_or] at h3
    clear hpr
    by_cases h4 : m.s0 ≤ z.sport
    case neg =>
      obtain rfl : b4 = false := by rw [← H4.out]; exact decide_eq_false (fun h => h4 h.1)
      go_wp2_with fail
      go_ret
      exact ⟨by rw [← HR.out]; rfl, K4.out⟩
    by_cases h5 : z.sport ≤ m.s1
    case neg =>
      obtain rfl : b4 = false := by rw [← H4.out]; exact decide_eq_false (fun h => h5 h.2)
      go_wp2_with fail
      go_ret
      exact ⟨by rw [← HR.out]; rfl, K4.out⟩
    obtain rfl : b4 = true := by rw [← H4.out]; exact decide_eq_true ⟨h4, h5⟩
    by_cases h6 : m.d0 ≤ z.dport
    case neg =>
      obtain rfl : b5 = false := by rw [← H5.out]; exact decide_eq_false (fun h => h6 h.1)
      go_wp2_with fail
      go_ret
      exact ⟨by rw [← HR.out]; rfl, K4.out⟩
    by_cases h7 : z.dport ≤ m.d1
    case neg =>
      obtain rfl : b5 = false := by rw [← H5.out]; exact decide_eq_false (fun h => h7 h.2)
      have H7F := Lib.hid (decide_eq_false h7)
      go_wp2_with fail
      go_ret
      exact ⟨by rw [← HR.out]; show Ending.returned (Value.bool (decide (z.dport ≤ m.d1))) = _; rw [H7F.out]; rfl, K4.out⟩
    obtain rfl : b5 = true := by rw [← H5.out]; exact decide_eq_true ⟨h6, h7⟩
    go_wp2_with fail
    go_ret
    exact ⟨by rw [← HR.out]; rfl, K4.out⟩

end Go.Proofs.YtgglkldoclejaaaDoor
