/-
  Walks: what the laws of the package netverifylaw30 call: 'ValidPacket', 'Field', 'pair'; 'Range' of a number that is no field.
-/
import Derived.Test.YtgglkldoclejaaaDoorHv
namespace Go.Proofs.YtgglkldoclejaaaDoor
open Go.RowKit

set_option maxRecDepth 100000 in
theorem Range_bad (x : Int) (hx : ¬ (0 ≤ x ∧ x < 5)) (p : Nat) (nx : Bool) (lo hi : Int) (w : World) : Calls Tryd.prog 30 #[ptr p, .int .i64 x, .bool nx, .int .u32 lo, .int .u32 hi] w fun e w' => e = .returned (.int .i64 (-1)) ∧ w = w' := by
  have W := Lib.hid (Width_out x hx w)
  clear hx
  go_enter Tryd.func30, Tryd.ntmps30
  go_wp2_with fail
  refine W.out.mono ?_
  rintro e w' ⟨rfl, rfl⟩
  go_wp2_with fail
  go_ret
  exact ⟨rfl, rfl⟩

def inB (lo hi n : Int) : Bool := decide (lo ≤ n ∧ n ≤ hi)
set_option maxRecDepth 100000 in
theorem inRange_ok (lo hi n : Int) (w : World) : Calls Tryd.prog 58 #[.agg #[.int .i64 lo, .int .i64 hi], .int .i64 n] w fun e w' => e = .returned (.bool (inB lo hi n)) ∧ Kp No w w' := by
  by_cases h1 : lo ≤ n
  · by_cases h2 : n ≤ hi
    · have e : inB lo hi n = true := decide_eq_true ⟨h1, h2⟩
      rw [e]
      go_enter Tryd.func58, Tryd.ntmps58
      go_wp2_with fail
      go_ret
      exact ⟨rfl, Kp.alloc _⟩
    · have e : inB lo hi n = false := decide_eq_false (fun h => h2 h.2)
      rw [e]
      go_enter Tryd.func58, Tryd.ntmps58
      go_wp2_with fail
      go_ret
      exact ⟨rfl, Kp.alloc _⟩
  · have e : inB lo hi n = false := decide_eq_false (fun h => h1 h.1)
    rw [e]
    go_enter Tryd.func58, Tryd.ntmps58
    go_wp2_with fail
    go_ret
    exact ⟨rfl, Kp.alloc _⟩

def vpB (p : Pkt) : Bool := decide (0 ≤ p.proto ∧ p.proto ≤ 255) && inB 0 65535 p.sport && inB 0 65535 p.dport
theorem vpB_true {p : Pkt} (h : p.in32) : vpB p = true → p.ok := fun e => by
  unfold vpB inB at e
  simp only [Bool.and_eq_true, decide_eq_true_eq] at e
  exact ⟨h.h0, h.h1, e.1.1, e.1.2, e.2⟩
theorem Pkt.ok.vp {p : Pkt} (h : p.ok) : vpB p = true := by
  unfold vpB inB
  simp only [Bool.and_eq_true, decide_eq_true_eq]
  exact ⟨⟨h.h2, h.h3⟩, h.h4⟩

set_option maxRecDepth 100000 in
set_option maxHeartbeats 1000000 in
theorem ValidPacket_ok (p : Pkt) (w : World) : Calls Tryd.prog 21 #[pktV p] w fun e w' => e = .returned (.bool (vpB p)) ∧ Kp No w w' := by
  have IN := Lib.hid (fun (y : World) (n : Int) => inRange_ok 0 65535 n y)
  obtain ⟨b, hb⟩ : ∃ b, vpB p = b := ⟨_, rfl⟩
  have HB := Lib.hid hb
  rw [hb]
  unfold vpB at hb
  have PA := Lib.hid (PkAt.new w p 29)
  unfold pktV
  by_cases h1 : 0 ≤ p.proto
  · by_cases h2 : p.proto ≤ 255
    · rw [decide_eq_true (And.intro h1 h2), Bool.true_and] at hb
      cases h3 : inB 0 65535 p.sport
      · rw [h3] at hb
        have e : b = false := by rw [← hb]; rfl
        subst e
        have I1 := Lib.hid (fun (y : World) => IN.out y p.sport)
        rw [h3] at I1
        clear hb h3
        go_enter Tryd.func21, Tryd.ntmps21
        go_wp2_with fail
        refine (I1.out _).mono ?_
        rintro e w1 ⟨rfl, k1⟩
        have K1 := Lib.hid (((Kp.alloc _).trans_no (Kp.alloc _)).trans_no k1)
        clear k1
        go_wp2_with fail
        go_ret
        exact ⟨rfl, K1.out⟩
      · rw [h3, Bool.true_and] at hb
        have I1 := Lib.hid (fun (y : World) => IN.out y p.sport)
        rw [h3] at I1
        have I2 := Lib.hid (fun (y : World) => IN.out y p.dport)
        rw [hb] at I2
        clear hb h3
        go_enter Tryd.func21, Tryd.ntmps21
        go_wp2_with fail
        refine (I1.out _).mono ?_
        rintro e w1 ⟨rfl, k1⟩
        have hz := k1.size
        have PP := (PA.out.no (Kp.alloc (.cells #[.int .i64 0, .int .i64 65535] 64))).no k1
        obtain ⟨_, _, c2, c3, c4⟩ := PP
        have d0 : w1.cell? ⟨w.heap.size + 1, 0, none⟩ = some (.int .i64 0) := by
          rw [k1.cell (by simp) (fun x => x)]
          simp
        have d1 : w1.cell? ⟨w.heap.size + 1, 1, none⟩ = some (.int .i64 65535) := by
          rw [k1.cell (by simp) (fun x => x)]
          simp
        have K1 := Lib.hid (((Kp.alloc _).trans_no (Kp.alloc _)).trans_no k1)
        clear k1
        go_wp2_with fail
        refine (I2.out _).mono ?_
        rintro e w2 ⟨rfl, k2⟩
        have K2 := Lib.hid (K1.out.trans_no k2)
        clear k2 c2 c3 c4 d0 d1
        go_wp2_with fail
        go_ret
        exact ⟨rfl, K2.out⟩
    · have e : b = false := by rw [← hb, decide_eq_false (fun h => h2 h.2)]; rfl
      subst e
      clear hb
      go_enter Tryd.func21, Tryd.ntmps21
      go_wp2_with fail
      go_ret
      exact ⟨rfl, (Kp.alloc _).trans_no (Kp.alloc _)⟩
  · have e : b = false := by rw [← hb, decide_eq_false (fun h => h1 h.1)]; rfl
    subst e
    clear hb
    go_enter Tryd.func21, Tryd.ntmps21
    go_wp2_with fail
    go_ret
    exact ⟨rfl, (Kp.alloc _).trans_no (Kp.alloc _)⟩

set_option maxRecDepth 100000 in
theorem Field_ok (p : Pkt) (k : Nat) (hk : k < 5) (w : World) : Calls Tryd.prog 28 #[pktV p, .int .i64 (k : Int)] w fun e w' => e = .returned (.int .u32 (p.f k : Int)) ∧ Kp No w w' := by
  unfold pktV
  have h2 : p.proto % 4294967296 = (p.f 2 : Int) := by show _ = ((u32 p.proto : Nat) : Int); unfold u32; omega
  have h3 : p.sport % 4294967296 = (p.f 3 : Int) := by show _ = ((u32 p.sport : Nat) : Int); unfold u32; omega
  have h4 : p.dport % 4294967296 = (p.f 4 : Int) := by show _ = ((u32 p.dport : Nat) : Int); unfold u32; omega
  have H2 := Lib.hid h2
  have H3 := Lib.hid h3
  have H4 := Lib.hid h4
  clear h2 h3 h4
  rcases five hk with rfl | rfl | rfl | rfl | rfl
  all_goals
    go_enter Tryd.func28, Tryd.ntmps28
    go_wp2_with fail
    go_ret
  · exact ⟨rfl, Kp.alloc _⟩
  · exact ⟨rfl, Kp.alloc _⟩
  · exact ⟨by rw [← H2.out]; rfl, Kp.alloc _⟩
  · exact ⟨by rw [← H3.out]; rfl, Kp.alloc _⟩
  · exact ⟨by rw [← H4.out]; rfl, Kp.alloc _⟩

set_option maxRecDepth 100000 in
theorem pair_ok (p q : Pkt) (hp : p.in32) (hq : q.in32) {w : World} (g : Gl w) : Calls Tryd.prog 33 #[pktV p, pktV q] w (EncPost w (encF (fun _ => false) p q)) := by
  have PA := Lib.hid (PkAt.new w p 29)
  have EN := Lib.hid (fun (y : World) (h : Gl y) => Encode_ok [] p q hp hq h (dv := .slice none 0 0) ⟨none, 0, rfl, rfl, .inl rfl⟩ (by simp))
  have e : dnF [] = fun _ => false := by funext v; simp [dnF]
  rw [e] at EN
  have GLW := Lib.hid g
  clear e g hp hq
  unfold pktV at EN ⊢
  go_enter Tryd.func33, Tryd.ntmps33
  go_wp2_with fail
  refine (EN.out _ ((GLW.out.no (Kp.alloc _)).no (Kp.alloc _))).mono ?_
  rintro e w1 ⟨ga, rfl, row, k1⟩
  have F : Hid (EncPost w (encF (fun _ => false) p q) (.returned (.slice (some ⟨ga, 0, none⟩) 220 220)) w1) := Lib.hid ⟨ga, rfl, by
    rcases row.2 with hx | ⟨g, cap, cur, hv, hg, r⟩
    · exact ⟨row.1, .inl hx⟩
    · exact ⟨row.1, .inr ⟨g, cap, cur, hv, by simp at hg; omega, r⟩⟩, ((Kp.alloc _).trans_no (Kp.alloc _)).trans_no k1⟩
  clear row k1
  go_wp2_with fail
  go_ret
  exact F.out

/-- Two packets in memory behind the law's arguments. -/
structure Two2 (w : World) (bp bq : Nat) (p q : Pkt) (x : World) : Prop where
  kp : Kp No w x
  gl : Gl x
  pa : PkAt x bp p
  pb : PkAt x bq q
  glw : Gl w
theorem Two2.no {w : World} {bp bq : Nat} {p q : Pkt} {x y : World} (t : Two2 w bp bq p q x) (k : Kp No x y) : Two2 w bp bq p q y := ⟨t.kp.trans_no k, t.gl.no k, t.pa.no k, t.pb.no k, t.glw⟩
theorem PkAt.lt {w : World} {b : Nat} {p : Pkt} (h : PkAt w b p) : b < w.heap.size := World.block_lt_of_cell? _ _ h.c0
theorem Two2.new2 {w : World} (g : Gl w) (p q : Pkt) : Two2 w w.heap.size (w.heap.size + 1) p q ((w.alloc (.cells #[.int .u32 (p.src : Int), .int .u32 (p.dst : Int), .int .i64 p.proto, .int .i64 p.sport, .int .i64 p.dport] 29)).alloc (.cells #[.int .u32 (q.src : Int), .int .u32 (q.dst : Int), .int .i64 q.proto, .int .i64 q.sport, .int .i64 q.dport] 29)) := by
  refine ⟨(Kp.alloc _).trans_no (Kp.alloc _), (g.no (Kp.alloc _)).no (Kp.alloc _), (PkAt.new w p 29).no (Kp.alloc _), ?_, g⟩
  have := PkAt.new (w.alloc (.cells #[.int .u32 (p.src : Int), .int .u32 (p.dst : Int), .int .i64 p.proto, .int .i64 p.sport, .int .i64 p.dport] 29)) q 29
  simpa using this
/-- A call of the manager's, whose blocks are all from N on. -/
theorem Two2.mgr {w : World} {bp bq : Nat} {p q : Pkt} {x y : World} {A : Nat → Prop} {N : Nat} (t : Two2 w bp bq p q x) (k : Kp A x y) (hA : ∀ b, A b → N ≤ b) (h1 : bp < N) (h2 : bq < N) (h3 : w.heap.size ≤ N) : Two2 w bp bq p q y := by
  have hg : ¬ A 0 := fun h => by
    have := hA _ h
    have := t.glw.lt
    omega
  exact ⟨t.kp.trans (A' := A) (fun b hb => .inr (Nat.le_trans h3 (hA b hb))) k, t.gl.kp k hg, t.pa.kp k (fun h => by have := hA _ h; omega), t.pb.kp k (fun h => by have := hA _ h; omega), t.glw⟩

end Go.Proofs.YtgglkldoclejaaaDoor
