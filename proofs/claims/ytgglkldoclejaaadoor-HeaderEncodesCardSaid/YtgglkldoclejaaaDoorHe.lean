/-
  Walks: the law HeaderEncodes.
-/
import Derived.Test.YtgglkldoclejaaaDoorHe1
import Derived.Test.YtgglkldoclejaaaDoorSave
import Derived.Deep.RegionHeld3
namespace Go.Proofs.YtgglkldoclejaaaDoor
open Go.RowKit

set_option maxRecDepth 100000 in
set_option maxHeartbeats 8000000 in
theorem HeaderEncodes_walk (l : List Int) (p q : Pkt) (x b : Int) (hp : p.in32) (hq : q.in32) {dv : Value} {w : World} (hd : SrcAt w dv 1 l.length (l.map intV)) (g : Gl w) :
    Calls Tryd.prog 4 #[dv, pktV p, pktV q, .int .i64 x, .int .i64 b] w fun e w' => e = .returned (.bool true) ∧ Kp No w w' := by
  obtain ⟨i0, hi0, hz0, hz1, hz2⟩ := info_parts info_int
  have T0 := Lib.hid (Two2.new2 g p q)
  have HD := Lib.hid hd
  obtain ⟨ao, c, rfl, _⟩ := hd
  clear g
  by_cases h40 : l.length ≤ 40
  case neg =>
    have AW := Lib.hid (fun (y : World) (h : Gl y) => hawake_ok h)
    have hl : (40 : Int) < l.length := by omega
    unfold pktV
    go_enter Tryd.func4, Tryd.ntmps4
    go_wp2_with fail
    refine (AW.out _ T0.out.gl).mono ?_
    rintro e w1 ⟨rfl, k1⟩
    have T1 := Lib.hid (T0.out.no k1)
    clear k1 T0
    go_wp2_with fail
    go_ret
    exact ⟨rfl, T1.out.kp⟩
  have hl : ¬ (40 : Int) < l.length := by omega
  have AW := Lib.hid (fun (y : World) (h : Gl y) => hawake_ok h)
  have VP := Lib.hid (fun (y : World) => ValidPacket_ok p y)
  have VQ := Lib.hid (fun (y : World) => ValidPacket_ok q y)
  cases hvp : vpB p
  · rw [hvp] at VP
    clear hvp
    unfold pktV at VP VQ ⊢
    go_enter Tryd.func4, Tryd.ntmps4
    go_wp2_with fail
    refine (AW.out _ T0.out.gl).mono ?_
    rintro e w1 ⟨rfl, k1⟩
    have T1 := Lib.hid (T0.out.no k1)
    clear k1 T0
    obtain ⟨c0, c1, c2, c3, c4⟩ := T1.out.pa
    go_wp2_with fail
    refine (VP.out _).mono ?_
    rintro e w2 ⟨rfl, k2⟩
    have T2 := Lib.hid (T1.out.no k2)
    clear k2 T1 c0 c1 c2 c3 c4
    go_wp2_with fail
    go_ret
    exact ⟨rfl, T2.out.kp⟩
  rw [hvp] at VP
  have hpo := vpB_true hp hvp
  cases hvq : vpB q
  · rw [hvq] at VQ
    clear hvq hvp hpo
    unfold pktV at VP VQ ⊢
    go_enter Tryd.func4, Tryd.ntmps4
    go_wp2_with fail
    refine (AW.out _ T0.out.gl).mono ?_
    rintro e w1 ⟨rfl, k1⟩
    have T1 := Lib.hid (T0.out.no k1)
    clear k1 T0
    obtain ⟨c0, c1, c2, c3, c4⟩ := T1.out.pa
    go_wp2_with fail
    refine (VP.out _).mono ?_
    rintro e w2 ⟨rfl, k2⟩
    have T2 := Lib.hid (T1.out.no k2)
    clear k2 T1 c0 c1 c2 c3 c4
    obtain ⟨d0, d1, d2, d3, d4⟩ := T2.out.pb
    go_wp2_with fail
    refine (VQ.out _).mono ?_
    rintro e w3 ⟨rfl, k3⟩
    have T3 := Lib.hid (T2.out.no k3)
    clear k3 T2 d0 d1 d2 d3 d4
    go_wp2_with fail
    go_ret
    exact ⟨rfl, T3.out.kp⟩
  rw [hvq] at VQ
  have hqo := vpB_true hq hvq
  clear hvp hvq
  have SRC := Lib.hid (fun (y : World) (k : Kp No w y) => HD.out.no k)
  have HONE : Hid (∀ u ∈ l.map intV, u.oneCell' = true) := Lib.hid (fun u hu => by obtain ⟨b, _, rfl⟩ := List.mem_map.1 hu; rfl)
  have EN := Lib.hid (fun (y : World) (v : Value) (h : Gl y) (s : SrcAt y v 1 l.length (l.map intV)) => Encode_ok l p q hp hq h s (by omega))
  have LK := Lib.hid (fun (y : World) (k : Kp No w y) => links_ok l (HD.out.no k) (by omega))
  have hk := pick_lt x (n := 5) (by omega)
  have PK := Lib.hid (fun (y : World) => Pick_ok x 5 y (by omega) (by omega))
  generalize pick x 5 = k at *
  have WD := Lib.hid (fun (y : World) => width_ok k hk y)
  have hw8 := fw_pos hk
  have hw32 := fw_le k
  have hb := pick_lt b (n := fw k) (by omega)
  have PB := Lib.hid (fun (y : World) => Pick_ok b (fw k) y (by omega) (by omega))
  generalize pick b (fw k) = bt at *
  have VA := Lib.hid (fun (y : World) (h : Gl y) (nx : Bool) => HVar_in k bt nx hk hb h)
  have hv0 := fvar_lt hk hb false
  have hv1 := fvar_lt hk hb true
  have FP := Lib.hid (fun (y : World) => Field_ok p k hk y)
  have FQ := Lib.hid (fun (y : World) => Field_ok q k hk y)
  have EB0 : Hid (encF (dnF l) p q (fvar k bt false) = (p.f k).testBit (fw k - 1 - bt)) := Lib.hid (by unfold fvar; rw [enc_bit]; exact p.bit_at hk hb)
  have EB1 : Hid (encF (dnF l) p q (fvar k bt true) = (q.f k).testBit (fw k - 1 - bt)) := Lib.hid (by unfold fvar; rw [enc_bit]; exact q.bit_at hk hb)
  have s0 : (bits BinOp.and IntKind.u32 ((p.f k : Int) / 2 ^ (fw k - 1 - bt)) 1 == 1) = (p.f k).testBit (fw k - 1 - bt) := bit_u32 (hp.f hk)
  have s1 : (bits BinOp.and IntKind.u32 ((q.f k : Int) / 2 ^ (fw k - 1 - bt)) 1 == 1) = (q.f k).testBit (fw k - 1 - bt) := bit_u32 (hq.f hk)
  have GD : Hid (∀ nx : Bool, getP (asg (gL (encF (dnF l) p q))) nx = if nx then q else p) := Lib.hid (fun nx => getP_enc (dnF l) hpo hqo nx (fun v hv => gL_at _ hv))
  have CK : Hid (∀ y, Two2 w w.heap.size (w.heap.size + 1) p q y → y.cell? ⟨w.heap.size, 0, none⟩ = some (.int .u32 (p.src : Int)) ∧ y.cell? ⟨w.heap.size, 1, none⟩ = some (.int .u32 (p.dst : Int)) ∧ y.cell? ⟨w.heap.size, 2, none⟩ = some (.int .i64 p.proto) ∧ y.cell? ⟨w.heap.size, 3, none⟩ = some (.int .i64 p.sport) ∧ y.cell? ⟨w.heap.size, 4, none⟩ = some (.int .i64 p.dport) ∧ y.cell? ⟨w.heap.size + 1, 0, none⟩ = some (.int .u32 (q.src : Int)) ∧ y.cell? ⟨w.heap.size + 1, 1, none⟩ = some (.int .u32 (q.dst : Int)) ∧ y.cell? ⟨w.heap.size + 1, 2, none⟩ = some (.int .i64 q.proto) ∧ y.cell? ⟨w.heap.size + 1, 3, none⟩ = some (.int .i64 q.sport) ∧ y.cell? ⟨w.heap.size + 1, 4, none⟩ = some (.int .i64 q.dport)) := Lib.hid (fun y t => ⟨t.pa.c0, t.pa.c1, t.pa.c2, t.pa.c3, t.pa.c4, t.pb.c0, t.pb.c1, t.pb.c2, t.pb.c3, t.pb.c4⟩)
  unfold pktV at VP VQ EN FP FQ ⊢
  go_enter Tryd.func4, Tryd.ntmps4
  go_wp2_with fail
  refine (AW.out _ T0.out.gl).mono ?_
  rintro e w1 ⟨rfl, k1⟩
  have T1 := Lib.hid (T0.out.no k1)
  clear k1 T0
  obtain ⟨c0, c1, c2, c3, c4⟩ := T1.out.pa
  go_wp2_with fail
  refine (VP.out _).mono ?_
  rintro e w2 ⟨rfl, k2⟩
  have T2 := Lib.hid (T1.out.no k2)
  clear k2 T1 c0 c1 c2 c3 c4
  obtain ⟨d0, d1, d2, d3, d4⟩ := T2.out.pb
  go_wp2_with fail
  refine (VQ.out _).mono ?_
  rintro e w3 ⟨rfl, k3⟩
  have T3 := Lib.hid (T2.out.no k3)
  clear k3 T2 d0 d1 d2 d3 d4
  have TD := Lib.hid (T3.out.no Kp.drew)
  have S0 := Lib.hid (CK.out _ TD.out)
  go_upto_region 5 with (fail)
  go_region_held3 (fun y => y.cell? ⟨w.heap.size, 0, none⟩ = some (.int .u32 (p.src : Int)) ∧ y.cell? ⟨w.heap.size, 1, none⟩ = some (.int .u32 (p.dst : Int)) ∧ y.cell? ⟨w.heap.size, 2, none⟩ = some (.int .i64 p.proto) ∧ y.cell? ⟨w.heap.size, 3, none⟩ = some (.int .i64 p.sport) ∧ y.cell? ⟨w.heap.size, 4, none⟩ = some (.int .i64 p.dport) ∧ y.cell? ⟨w.heap.size + 1, 0, none⟩ = some (.int .u32 (q.src : Int)) ∧ y.cell? ⟨w.heap.size + 1, 1, none⟩ = some (.int .u32 (q.dst : Int)) ∧ y.cell? ⟨w.heap.size + 1, 2, none⟩ = some (.int .i64 q.proto) ∧ y.cell? ⟨w.heap.size + 1, 3, none⟩ = some (.int .i64 q.sport) ∧ y.cell? ⟨w.heap.size + 1, 4, none⟩ = some (.int .i64 q.dport)) (first | exact S0.out | exact SA.out | exact SB.out)
    (first | (refine step_append_src (by rfl) _ _ (by rfl) Tryd.underlying26 hi0 hz0 hz1 hz2 rfl (by omega) (by rfl) (World.ownsRow_nil _ _ _ _) (by rfl) (SRC.out _ TD.out.kp) HONE.out (by unfold maxLen; omega) (by omega) (Nat.zero_le _) ?_; intro va wa hown hgrow hat; have ka : Kp No w3.drew wa := (Kp.grown hgrow).mono (fun x _ h => by simp [Value.ownBlock] at h); have TA := Lib.hid (TD.out.no ka); have SA := Lib.hid (CK.out _ TA.out); have CA := Lib.hid (EN.out wa va TA.out.gl (SrcAt.of_row (by simpa using hown))); clear hown hgrow hat ka) | (go_at_call 22; (with_reducible refine CA.out.mono ?_); rintro e wb ⟨ga, rfl, row, kb⟩; have TB := Lib.hid (TA.out.no kb); have SB := Lib.hid (CK.out _ TB.out); have ROW := Lib.hid row; clear kb row))
  all_goals
    have DE := Lib.hid (Decode_ok TB.out.gl (bools_row ROW.out))
    clear SRC SA SB S0 CA TA TD
    go_wp2_with fail
    refine DE.out.mono ?_
    rintro e wc ⟨dv, rfl, drow, kc⟩
    rw [dnL_enc] at drow
    rw [GD.out false, GD.out true, if_neg (by simp), if_pos rfl]
    have TC := Lib.hid (TB.out.no kc)
    have ROWC := Lib.hid (ownsRow_kp ROW.out kc (fun _ _ z => z))
    have DROW := Lib.hid drow
    obtain ⟨a3, c3, rfl, _⟩ := ownsRow_len (row_zero drow)
    have k4 : Kp No wc ((wc.alloc (.cells #[.int .u32 (p.src : Int), .int .u32 (p.dst : Int), .int .i64 p.proto, .int .i64 p.sport, .int .i64 p.dport] 29)).alloc (.cells #[.int .u32 (q.src : Int), .int .u32 (q.dst : Int), .int .i64 q.proto, .int .i64 q.sport, .int .i64 q.dport] 29)) := (Kp.alloc _).trans_no (Kp.alloc _)
    have PA : Hid (PkAt ((wc.alloc (.cells #[.int .u32 (p.src : Int), .int .u32 (p.dst : Int), .int .i64 p.proto, .int .i64 p.sport, .int .i64 p.dport] 29)).alloc (.cells #[.int .u32 (q.src : Int), .int .u32 (q.dst : Int), .int .i64 q.proto, .int .i64 q.sport, .int .i64 q.dport] 29)) wc.heap.size p) := Lib.hid ((PkAt.new wc p 29).no (Kp.alloc _))
    have PB2 : Hid (PkAt ((wc.alloc (.cells #[.int .u32 (p.src : Int), .int .u32 (p.dst : Int), .int .i64 p.proto, .int .i64 p.sport, .int .i64 p.dport] 29)).alloc (.cells #[.int .u32 (q.src : Int), .int .u32 (q.dst : Int), .int .i64 q.proto, .int .i64 q.sport, .int .i64 q.dport] 29)) (wc.heap.size + 1) q) := Lib.hid (by have := PkAt.new (wc.alloc (.cells #[.int .u32 (p.src : Int), .int .u32 (p.dst : Int), .int .i64 p.proto, .int .i64 p.sport, .int .i64 p.dport] 29)) q 29; simpa using this)
    have T4 := Lib.hid (TC.out.no k4)
    have ROW4 := Lib.hid (ownsRow_kp ROWC.out k4 (fun _ _ z => z))
    have DROW4 := Lib.hid (ownsRow_kp DROW.out k4 (fun _ _ z => z))
    clear drow kc DE ROW ROWC DROW TB TC k4
    unfold pktV
    go_wp2_with fail
    change Calls _ _ _ ((wc.alloc (.cells #[.int .u32 (p.src : Int), .int .u32 (p.dst : Int), .int .i64 p.proto, .int .i64 p.sport, .int .i64 p.dport] 29)).alloc (.cells #[.int .u32 (q.src : Int), .int .u32 (q.dst : Int), .int .i64 q.proto, .int .i64 q.sport, .int .i64 q.dport] 29)) _
    generalize (wc.alloc (.cells #[.int .u32 (p.src : Int), .int .u32 (p.dst : Int), .int .i64 p.proto, .int .i64 p.sport, .int .i64 p.dport] 29)).alloc (.cells #[.int .u32 (q.src : Int), .int .u32 (q.dst : Int), .int .i64 q.proto, .int .i64 q.sport, .int .i64 q.dport] 29) = w4 at *
    refine (LK.out _ T4.out.kp).mono ?_
    rintro e w5 ⟨lv, rfl, lrow, k5⟩
    have T5 := Lib.hid (T4.out.no k5)
    have ROW5 := Lib.hid (ownsRow_kp ROW4.out k5 (fun _ _ z => z))
    have PA5 := Lib.hid (PA.out.no k5)
    have PB5 := Lib.hid (PB2.out.no k5)
    have hdl := dnL_len (dnF l) 12
    have IE : Hid (Calls Tryd.prog 24 #[.slice a3 (dnL (dnF l) 12).length c3, lv] w5 fun e w' => e = .returned (.bool true) ∧ ∃ m, w' = w5.drewN m) := Lib.hid (by
      have e1 : ((dnL (dnF l) 12).map (fun n : Nat => (n : Int))).map intV = (dnL (dnF l) 12).map natV := by rw [List.map_map]; rfl
      refine Ints_eq (l := (dnL (dnF l) 12).map (fun n : Nat => (n : Int))) ?_ ?_ (by simp; omega)
      · rw [e1, List.length_map]; exact SrcAt.of_row (ownsRow_kp DROW4.out k5 (fun _ _ z => z))
      · rw [e1, List.length_map]; exact SrcAt.of_row lrow)
    obtain ⟨a5, c5, rfl, _⟩ := ownsRow_len (row_zero lrow)
    clear lrow k5 LK ROW4 DROW4 T4 PA PB2
    go_wp2_with fail
    refine IE.out.mono ?_
    rintro e w6' ⟨rfl, m, rfl⟩
    have T6 := Lib.hid (T5.out.no (Kp.drewN m))
    have ROW6 := Lib.hid (ownsRow_kp ROW5.out (Kp.drewN m) (fun _ _ z => z))
    obtain ⟨c0, c1, c2, c3, c4⟩ := T6.out.pa
    obtain ⟨d0, d1, d2, d3, d4⟩ := T6.out.pb
    obtain ⟨e0, e1, e2, e3, e4⟩ := PA5.out.no (Kp.drewN m)
    obtain ⟨f0, f1, f2, f3, f4⟩ := PB5.out.no (Kp.drewN m)
    generalize w5.drewN m = w6 at *
    clear IE T5 ROW5 PA5 PB5
    go_wp2_with fail
    refine (PK.out _).mono ?_
    rintro e w' ⟨rfl, rfl⟩
    clear c0 c1 c2 c3 c4 d0 d1 d2 d3 d4 e0 e1 e2 e3 e4 f0 f1 f2 f3 f4
    go_wp2_with fail
    refine (WD.out _).mono ?_
    rintro e w' ⟨rfl, rfl⟩
    go_wp2_with fail
    refine (PB.out _).mono ?_
    rintro e w' ⟨rfl, rfl⟩
    go_wp2_with fail
    refine (VA.out _ T6.out.gl false).mono ?_
    rintro e w' ⟨rfl, rfl⟩
    go_wp2_with fail
    refine (VA.out _ T6.out.gl true).mono ?_
    rintro e w' ⟨rfl, rfl⟩
    have hv0i : (fvar k bt false : Int) < 220 := by omega
    have hv1i : (fvar k bt true : Int) < 220 := by omega
    have RC : Hid (∀ y, Kp No w6 y → y.cell? ⟨ga, fvar k bt false, none⟩ = some (.bool ((p.f k).testBit (fw k - 1 - bt))) ∧ y.cell? ⟨ga, fvar k bt true, none⟩ = some (.bool ((q.f k).testBit (fw k - 1 - bt)))) := Lib.hid (fun y ky => by
      obtain ⟨g', c', hq, _, _, _, hc, _⟩ := ownsRow_open (ownsRow_kp ROW6.out ky (fun _ _ z => z)) (by omega)
      cases hq
      have h0 := hc _ _ (boolRow_at (encF (dnF l) p q) hv0)
      have h1 := hc _ _ (boolRow_at (encF (dnF l) p q) hv1)
      rw [EB0.out] at h0
      rw [EB1.out] at h1
      exact ⟨h0, h1⟩)
    generalize fvar k bt false = v0 at *
    generalize fvar k bt true = v1 at *
    generalize (p.f k).testBit (fw k - 1 - bt) = b0 at *
    generalize (q.f k).testBit (fw k - 1 - bt) = b1 at *
    go_wp2_with fail
    refine (WD.out _).mono ?_
    rintro e w' ⟨rfl, rfl⟩
    have TD := Lib.hid (T6.out.no Kp.drew)
    have S0 := Lib.hid (And.intro (RC.out _ Kp.drew).1 (And.intro (RC.out _ Kp.drew).2 (CK.out _ TD.out)))
    have CK2 : Hid (∀ y, Kp No w6.drew y → y.cell? ⟨ga, v0, none⟩ = some (.bool b0) ∧ y.cell? ⟨ga, v1, none⟩ = some (.bool b1) ∧ y.cell? ⟨w.heap.size, 0, none⟩ = some (.int .u32 (p.src : Int)) ∧ y.cell? ⟨w.heap.size, 1, none⟩ = some (.int .u32 (p.dst : Int)) ∧ y.cell? ⟨w.heap.size, 2, none⟩ = some (.int .i64 p.proto) ∧ y.cell? ⟨w.heap.size, 3, none⟩ = some (.int .i64 p.sport) ∧ y.cell? ⟨w.heap.size, 4, none⟩ = some (.int .i64 p.dport) ∧ y.cell? ⟨w.heap.size + 1, 0, none⟩ = some (.int .u32 (q.src : Int)) ∧ y.cell? ⟨w.heap.size + 1, 1, none⟩ = some (.int .u32 (q.dst : Int)) ∧ y.cell? ⟨w.heap.size + 1, 2, none⟩ = some (.int .i64 q.proto) ∧ y.cell? ⟨w.heap.size + 1, 3, none⟩ = some (.int .i64 q.sport) ∧ y.cell? ⟨w.heap.size + 1, 4, none⟩ = some (.int .i64 q.dport)) := Lib.hid (fun y ky => ⟨(RC.out _ (Kp.drew.trans_no ky)).1, (RC.out _ (Kp.drew.trans_no ky)).2, CK.out _ (TD.out.no ky)⟩)
    have F1 := Lib.hid (FP.out w6.drew)
    clear ROW6 RC
    go_upto_region 15 with (fail)
    go_region_held3 (fun y => y.cell? ⟨ga, v0, none⟩ = some (.bool b0) ∧ y.cell? ⟨ga, v1, none⟩ = some (.bool b1) ∧ y.cell? ⟨w.heap.size, 0, none⟩ = some (.int .u32 (p.src : Int)) ∧ y.cell? ⟨w.heap.size, 1, none⟩ = some (.int .u32 (p.dst : Int)) ∧ y.cell? ⟨w.heap.size, 2, none⟩ = some (.int .i64 p.proto) ∧ y.cell? ⟨w.heap.size, 3, none⟩ = some (.int .i64 p.sport) ∧ y.cell? ⟨w.heap.size, 4, none⟩ = some (.int .i64 p.dport) ∧ y.cell? ⟨w.heap.size + 1, 0, none⟩ = some (.int .u32 (q.src : Int)) ∧ y.cell? ⟨w.heap.size + 1, 1, none⟩ = some (.int .u32 (q.dst : Int)) ∧ y.cell? ⟨w.heap.size + 1, 2, none⟩ = some (.int .i64 q.proto) ∧ y.cell? ⟨w.heap.size + 1, 3, none⟩ = some (.int .i64 q.sport) ∧ y.cell? ⟨w.heap.size + 1, 4, none⟩ = some (.int .i64 q.dport)) (first | exact S0.out | exact SA.out | exact SB.out)
      (first | (go_at_call 28; (with_reducible refine F1.out.mono ?_); rintro e wa ⟨rfl, ka⟩; have KA := Lib.hid ka; have SA := Lib.hid (CK2.out _ ka); have F2 := Lib.hid (FQ.out wa); clear ka) | (go_at_call 28; (with_reducible refine F2.out.mono ?_); rintro e wb ⟨rfl, kb⟩; have KB := Lib.hid (KA.out.trans_no kb); have SB := Lib.hid (CK2.out _ KB.out); clear kb))
    all_goals
      go_wp2_with fail
      go_ret
      exact ⟨by simp, TD.out.kp.trans_no KB.out⟩

end Go.Proofs.YtgglkldoclejaaaDoor
