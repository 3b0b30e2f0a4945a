/-
  Walks: the law HeaderExchanges.
-/
import Derived.Test.YtohinonkfhkclaaDoorXe
import Derived.Test.YtohinonkfhkclaaDoorMm
import Derived.Deep.RegionHeld3
import Derived.Deep.CutBlock
namespace Go.Proofs.YtohinonkfhkclaaDoor
open Go.RowKit

/-- A match and two packets in memory behind the law's arguments. -/
structure TwoX (w : World) (m : Mt) (p q : Pkt) (x : World) : Prop where
  t : Two2 w (w.heap.size + 1) (w.heap.size + 2) p q x
  bx : MtAt x w.heap.size m
section
variable {w : World} {m : Mt} {p q : Pkt} {x y : World}
theorem TwoX.gl (t : TwoX w m p q x) : Gl x := t.t.gl
theorem TwoX.kp (t : TwoX w m p q x) : Kp No w x := t.t.kp
theorem TwoX.pa (t : TwoX w m p q x) : PkAt x (w.heap.size + 1) p := t.t.pa
theorem TwoX.pb (t : TwoX w m p q x) : PkAt x (w.heap.size + 2) q := t.t.pb
theorem TwoX.no (t : TwoX w m p q x) (k : Kp No x y) : TwoX w m p q y := ⟨t.t.no k, t.bx.no k⟩
theorem TwoX.mgr {A : Nat → Prop} {N : Nat} (t : TwoX w m p q x) (k : Kp A x y) (hA : ∀ b, A b → N ≤ b) (h1 : w.heap.size + 2 < N) : TwoX w m p q y :=
  ⟨t.t.mgr k hA (by omega) (by omega) (by omega), t.bx.kp k (fun h => by have := hA _ h; omega)⟩
theorem TwoX.new (g : Gl w) (m : Mt) (p q : Pkt) : TwoX w m p q (((w.alloc (.cells #[.int .u32 (m.sa : Int), .int .i64 m.sl, .int .u32 (m.da : Int), .int .i64 m.dl, .int .i64 m.pr, .int .i64 m.s0, .int .i64 m.s1, .int .i64 m.d0, .int .i64 m.d1] 46)).alloc (.cells #[.int .u32 (p.src : Int), .int .u32 (p.dst : Int), .int .i64 p.proto, .int .i64 p.sport, .int .i64 p.dport] 48)).alloc (.cells #[.int .u32 (q.src : Int), .int .u32 (q.dst : Int), .int .i64 q.proto, .int .i64 q.sport, .int .i64 q.dport] 48)) := by
  have k1 : Kp No w (w.alloc (.cells #[.int .u32 (m.sa : Int), .int .i64 m.sl, .int .u32 (m.da : Int), .int .i64 m.dl, .int .i64 m.pr, .int .i64 m.s0, .int .i64 m.s1, .int .i64 m.d0, .int .i64 m.d1] 46)) := Kp.alloc _
  have hb := MtAt.new w m
  have h2 := Two2.new2 (g.no k1) p q
  have hs : (w.alloc (.cells #[.int .u32 (m.sa : Int), .int .i64 m.sl, .int .u32 (m.da : Int), .int .i64 m.dl, .int .i64 m.pr, .int .i64 m.s0, .int .i64 m.s1, .int .i64 m.d0, .int .i64 m.d1] 46)).heap.size = w.heap.size + 1 := by simp
  refine ⟨⟨k1.trans_no h2.kp, h2.gl, ?_, ?_, g⟩, hb.no h2.kp⟩
  · have := h2.pa; rw [hs] at this; exact this
  · have := h2.pb; rw [hs] at this; exact this
end

theorem xch_xch (v : Nat) : xch (xch v) = v := by
  unfold xch
  by_cases h : v < 12
  · rw [if_pos h, if_pos h]
  · rw [if_neg h]
    by_cases e : v % 2 = 0
    · rw [if_pos e, if_neg (by omega), if_neg (by omega)]; omega
    · rw [if_neg e, if_neg (by omega), if_pos (by omega)]; omega
theorem xch_hvar (b : Nat) (nx : Bool) : xch (hvar b nx) = hvar b (!nx) := by
  unfold xch hvar
  cases nx
  · rw [if_neg (by omega), if_pos (by first | omega | (simp; done) | (simp; omega))]; simp
  · rw [if_neg (by omega), if_neg (by first | omega | (simp; done) | (simp; omega))]; simp
theorem rnF_rgF (k : Nat) (nx : Bool) (lo hi : Nat) : rnF xch (rgF k nx lo hi) = rgF k (!nx) lo hi := by
  funext a
  unfold rnF rgF fval
  have e : fbit k nx (fun v => a (xch v)) = fbit k (!nx) a := by
    funext i; unfold fbit fvar; dsimp only; rw [xch_hvar]
  rw [e]
theorem rnF_rnF (F : Bfn) : rnF xch (rnF xch F) = F := by
  funext a; unfold rnF; simp only [xch_xch]
theorem rnF_enc {R : Bfn} (h : Rd 0 220 R) (p q : Pkt) : rnF xch R (asg (gL (encF (fun _ => false) p q))) = R (asg (gL (encF (fun _ => false) q p))) := by
  refine h _ _ (fun v _ hv => ?_)
  show asg (gL (encF (fun _ => false) p q)) (xch v) = _
  rw [gL_at _ (xch_lt hv), gL_at _ hv]
  unfold encF xch
  by_cases h1 : v < 12
  · simp [h1]
  · rw [if_neg h1]
    by_cases e : v % 2 = 0
    · rw [if_pos e, if_neg (by omega), if_neg (show ¬ (v + 1 - 12) % 2 = 0 by omega), if_neg h1, if_pos (show (v - 12) % 2 = 0 by omega), show (v + 1 - 12) / 2 = (v - 12) / 2 by omega]
    · rw [if_neg e, if_neg (by omega), if_pos (show (v - 1 - 12) % 2 = 0 by omega), if_neg h1, if_neg (show ¬ (v - 12) % 2 = 0 by omega), show (v - 1 - 12) / 2 = (v - 12) / 2 by omega]

/-- The set that the law exchanges. -/
def HxR (w4 : World) (pm : Nat) (L4 : Lay) (s16 : Value) (x : World) : Prop :=
  ∃ r R M6 L6, s16 = .int .i64 r ∧ PSt 220 R 5400000 ∧ Hf w4 pm L4 220 5000000000 x M6 L6 [(r, R)]

set_option maxRecDepth 1000000 in
set_option maxHeartbeats 16000000 in
theorem HeaderExchanges_walk (x lo hi : Int) (m : Mt) (p q : Pkt) (h0 : 0 ≤ lo ∧ lo < 4294967296) (h1 : 0 ≤ hi ∧ hi < 4294967296) (h32 : m.in32) (hp : p.in32) (hq : q.in32) {w : World} (g : Gl w) :
    Calls Tryd.prog 4 #[.int .i64 x, .int .u32 lo, .int .u32 hi, mtV m, pktV p, pktV q] w fun e w' => e = .returned (.bool true) ∧ Kp No w w' := by
  have T0 := Lib.hid (TwoX.new g m p q)
  clear g
  unfold mtV
  have AW := Lib.hid (fun (y : World) (h : Gl y) => hawake_ok h)
  have VP := Lib.hid (fun (y : World) => ValidPacket_ok p y)
  have VQ := Lib.hid (fun (y : World) => ValidPacket_ok q y)
  cases hvp : vpB p
  · rw [hvp] at VP
    clear hvp
    unfold pktV at VP VQ ⊢
    go_enter Tryd.func4, Tryd.ntmps4
    go_wp2_with fail
    refine (AW.out _ T0.out.gl).mono ?_
    rintro e w1 ⟨rfl, k1⟩
    have T1 := Lib.hid (T0.out.no k1)
    clear k1 T0
    obtain ⟨c0, c1, c2, c3, c4⟩ := T1.out.pa
    go_wp2_with fail
    refine (VP.out _).mono ?_
    rintro e w2 ⟨rfl, k2⟩
    have T2 := Lib.hid (T1.out.no k2)
    clear k2 T1 c0 c1 c2 c3 c4
    go_wp2_with fail
    go_ret
    exact ⟨rfl, T2.out.kp⟩
  rw [hvp] at VP
  have hpo := vpB_true hp hvp
  cases hvq : vpB q
  · rw [hvq] at VQ
    clear hvq hvp hpo
    unfold pktV at VP VQ ⊢
    go_enter Tryd.func4, Tryd.ntmps4
    go_wp2_with fail
    refine (AW.out _ T0.out.gl).mono ?_
    rintro e w1 ⟨rfl, k1⟩
    have T1 := Lib.hid (T0.out.no k1)
    clear k1 T0
    obtain ⟨c0, c1, c2, c3, c4⟩ := T1.out.pa
    go_wp2_with fail
    refine (VP.out _).mono ?_
    rintro e w2 ⟨rfl, k2⟩
    have T2 := Lib.hid (T1.out.no k2)
    clear k2 T1 c0 c1 c2 c3 c4
    obtain ⟨d0, d1, d2, d3, d4⟩ := T2.out.pb
    go_wp2_with fail
    refine (VQ.out _).mono ?_
    rintro e w3 ⟨rfl, k3⟩
    have T3 := Lib.hid (T2.out.no k3)
    clear k3 T2 d0 d1 d2 d3 d4
    go_wp2_with fail
    go_ret
    exact ⟨rfl, T3.out.kp⟩
  rw [hvq] at VQ
  have hqo := vpB_true hq hvq
  have NEW := Lib.hid (fun (y : World) => HNew_ok y)
  clear hvp hvq
  have HPO := Lib.hid hpo
  have HQO := Lib.hid hqo
  have PPQ := Lib.hid (fun (y : World) (h : Gl y) => pair_ok p q hp hq h)
  have PQP := Lib.hid (fun (y : World) (h : Gl y) => pair_ok q p hq hp h)
  have PKP := Lib.hid (fun (c : Nat) (M : Mgr) (L : Lay) (B : List (Int × Bfn)) (y : World) (pm : Nat) (f : Hf y pm L 220 c y M L B) (hc : c ≤ 400000000000) => Packet_ok p hp true f.rep f.qk f.gl f.off hc)
  have PKQ := Lib.hid (fun (c : Nat) (M : Mgr) (L : Lay) (B : List (Int × Bfn)) (y : World) (pm : Nat) (f : Hf y pm L 220 c y M L B) (hc : c ≤ 400000000000) => Packet_ok q hq true f.rep f.qk f.gl f.off hc)
  have PICK := Lib.hid (fun (y : World) => Pick_ok x 5 y (by omega) (by omega))
  have hk5 := pick_lt x (n := 5) (by omega)
  generalize pick x 5 = k at *
  have RG := Lib.hid (fun (nx : Bool) (c : Nat) (M : Mgr) (L : Lay) (B : List (Int × Bfn)) (y : World) (pm : Nat) (f : Hf y pm L 220 c y M L B) (hc : c ≤ 500000000000) => Range_conv k hk5 nx lo hi h0 h1 f hc)
  have NI := Lib.hid (rgF_nine (k := k) (nx := false) hk5 (u32 lo) (u32 hi))
  have NJ := Lib.hid (rgF_nine (k := k) (nx := true) hk5 (u32 lo) (u32 hi))
  have VM := Lib.hid (fun (y : World) => ValidMatch_ok m y)
  obtain ⟨ok, hok⟩ : ∃ b, mtB m = b := ⟨_, rfl⟩
  have XG := Lib.hid (fun (h : ok = true) (c : Nat) (M : Mgr) (L : Lay) (B : List (Int × Bfn)) (y : World) (pm : Nat) (f : Hf y pm L 220 c y M L B) (hc : c ≤ 400000000000) => Match_ok m h32 (hok.trans h) false f.rep f.qk f.gl f.off hc)
  have MF := Lib.hid (mtF_few m false)
  have SP := Lib.hid (pkF_st p true 5 (by omega))
  have SQ := Lib.hid (pkF_st q true 5 (by omega))
  rw [hok] at VM
  clear hok hpo hqo hp hq h32 hk5 h0 h1
  unfold pktV mtV at *
  go_enter Tryd.func4, Tryd.ntmps4
  go_wp2_with fail
  refine (AW.out _ T0.out.gl).mono ?_
  rintro e w1 ⟨rfl, k1⟩
  have T1 := Lib.hid (T0.out.no k1)
  clear k1 T0
  obtain ⟨c0, c1, c2, c3, c4⟩ := T1.out.pa
  go_wp2_with fail
  refine (VP.out _).mono ?_
  rintro e w2 ⟨rfl, k2⟩
  have T2 := Lib.hid (T1.out.no k2)
  clear k2 T1 c0 c1 c2 c3 c4
  obtain ⟨d0, d1, d2, d3, d4⟩ := T2.out.pb
  go_wp2_with fail
  refine (VQ.out _).mono ?_
  rintro e w3 ⟨rfl, k3⟩
  have T3 := Lib.hid (T2.out.no k3)
  clear k3 T2 d0 d1 d2 d3 d4
  go_wp2_with fail
  refine (NEW.out _).mono ?_
  rintro e w4 ⟨pm, L4, rfl, R4, k4, o4⟩
  have T4 := Lib.hid (T3.out.no k4)
  have H4 := Lib.hid (hf_new T3.out.gl (Kp.refl No w3) R4 k4 o4)
  have O4 : Hid (∀ x, L4.at pm x → w.heap.size ≤ x) := Lib.hid (fun x hx => by have := o4 x hx; have := T3.out.kp.size; omega)
  have B4 : Hid (∀ x, L4.at pm x → w3.heap.size ≤ x) := Lib.hid o4
  clear R4 k4 o4 NEW
  have B4' : Hid (∀ b, L4.at pm b → w.heap.size + 3 ≤ b) := Lib.hid (fun b hb => by have := B4.out b hb; have := T3.out.pb.lt; omega)
  clear T3 O4 B4
  have CT : Hid (∀ y, Kp (L4.at pm) w4 y → TwoX w m p q y) := Lib.hid (fun y ky => T4.out.mgr ky B4'.out (by omega))
  go_wp2_with fail
  refine (PICK.out _).mono ?_
  rintro e w' ⟨rfl, rfl⟩
  clear PICK
  go_wp2_with fail
  refine (RG.out false _ _ _ _ _ _ H4.out (by omega)).mono ?_
  intro e w5 h5
  obtain ⟨f, M5, L5, rfl, hf, f5⟩ := H4.out.step h5
  have H5 := Lib.hid f5
  clear h5 f5
  go_wp2_with fail
  refine (RG.out true _ _ _ _ _ _ H5.out.rebase (by omega)).mono ?_
  intro e w6 h6
  obtain ⟨g, M6, L6, rfl, hg, f6⟩ := H5.out.step h6
  have H6 := Lib.hid f6
  clear h6 f6 H5 H4 RG
  go_wp2_with fail
  refine (ExchangeQ H6.out.rep H6.out.qk (.tail _ (.head _)) NI.out (by omega)).mono ?_
  intro e w7 h7
  obtain ⟨f', M7, L7, rfl, hf', f7⟩ := H6.out.step h7
  have eg : f' = g := f7.qk.eq (.head _) (.tail _ (.head _)) (fun a => by rw [rnF_rgF]; rfl)
  subst eg
  have H7 := Lib.hid (f7.sub (B' := [(f', rgF k true (u32 lo) (u32 hi)), (f, rgF k false (u32 lo) (u32 hi))]) (fun _ h => .tail _ h))
  clear h7 f7 H6
  go_wp2_with fail
  refine (ExchangeQ H7.out.rep H7.out.qk (.head _) NJ.out (by omega)).mono ?_
  intro e w8 h8
  obtain ⟨g', M8, L8, rfl, hg', f8⟩ := H7.out.step h8
  have ef : g' = f := f8.qk.eq (.head _) (.tail _ (.tail _ (.head _))) (fun a => by rw [rnF_rgF]; rfl)
  subst ef
  have H8 := Lib.hid (f8.sub (B' := [(f', rgF k true (u32 lo) (u32 hi)), (g', rgF k false (u32 lo) (u32 hi))]) (fun _ h => .tail _ h))
  clear h8 f8 H7
  go_wp2_with fail
  refine (Exchange_neg H8.out.rep).mono ?_
  rintro e w9 ⟨rfl, k9⟩
  have H9 := Lib.hid (H8.out.no k9)
  clear k9 H8 NJ
  obtain ⟨d0, d1, d2, d3, d4⟩ := (CT.out _ H9.out.sd.kp).pb
  go_wp2_with fail
  refine (PKQ.out _ _ _ _ _ _ H9.out.rebase (by omega)).mono ?_
  intro e w10 h10
  obtain ⟨r10, M10, L10, rfl, _, f10⟩ := H9.out.step h10
  have H10 := Lib.hid f10
  clear h10 f10 H9 d0 d1 d2 d3 d4
  have SRQ := Lib.hid (PSt.op (fun x y => x && y) NI.out SQ.out)
  go_wp2_with fail
  refine (AndQ H10.out.rep H10.out.qk (.tail _ (.tail _ (.head _))) (.head _) SRQ.out (by omega)).mono ?_
  intro e w11 h11
  obtain ⟨r11, M11, L11, rfl, _, f11⟩ := H10.out.step h11
  have H11 := Lib.hid (f11.sub (B' := [(r11, _)]) (fun _ h => by rcases List.mem_singleton.1 h with rfl; exact .head _))
  clear h11 f11 H10 NI
  obtain ⟨c0, c1, c2, c3, c4, c5, c6, c7, c8⟩ := (CT.out _ H11.out.sd.kp).bx.c
  go_wp2_with fail
  refine (VM.out _).mono ?_
  rintro e w12 ⟨rfl, k12⟩
  have H12 := Lib.hid (H11.out.no k12)
  clear k12 H11 c0 c1 c2 c3 c4 c5 c6 c7 c8 VM
  go_upto_if 65 with fail
  go_cut [16] (fun s16 x => HxR w4 pm L4 s16 x)
  case first =>
    cases ok
    · go_wp2_with fail
      go_meet
      case rel => exact ⟨_, _, _, _, rfl, SRQ.out.mono (by omega), H12.out.mono (by omega)⟩
    have XGT := Lib.hid (XG.out rfl)
    have CK : Hid (∀ y, Kp (L4.at pm) w4 y → y.cell? ⟨w.heap.size, 0, none⟩ = some (.int .u32 (m.sa : Int)) ∧ y.cell? ⟨w.heap.size, 1, none⟩ = some (.int .i64 m.sl) ∧ y.cell? ⟨w.heap.size, 2, none⟩ = some (.int .u32 (m.da : Int)) ∧ y.cell? ⟨w.heap.size, 3, none⟩ = some (.int .i64 m.dl) ∧ y.cell? ⟨w.heap.size, 4, none⟩ = some (.int .i64 m.pr) ∧ y.cell? ⟨w.heap.size, 5, none⟩ = some (.int .i64 m.s0) ∧ y.cell? ⟨w.heap.size, 6, none⟩ = some (.int .i64 m.s1) ∧ y.cell? ⟨w.heap.size, 7, none⟩ = some (.int .i64 m.d0) ∧ y.cell? ⟨w.heap.size, 8, none⟩ = some (.int .i64 m.d1) ∧ y.cell? ⟨w.heap.size + 1, 0, none⟩ = some (.int .u32 (p.src : Int)) ∧ y.cell? ⟨w.heap.size + 1, 1, none⟩ = some (.int .u32 (p.dst : Int)) ∧ y.cell? ⟨w.heap.size + 1, 2, none⟩ = some (.int .i64 p.proto) ∧ y.cell? ⟨w.heap.size + 1, 3, none⟩ = some (.int .i64 p.sport) ∧ y.cell? ⟨w.heap.size + 1, 4, none⟩ = some (.int .i64 p.dport)) := Lib.hid (fun y ky => by
      have t := CT.out y ky
      obtain ⟨c0, c1, c2, c3, c4, c5, c6, c7, c8⟩ := t.bx.c
      obtain ⟨d0, d1, d2, d3, d4⟩ := t.pa
      exact ⟨c0, c1, c2, c3, c4, c5, c6, c7, c8, d0, d1, d2, d3, d4⟩)
    have HD := Lib.hid (H12.out.no Kp.drew)
    have S0 := Lib.hid (CK.out _ HD.out.sd.kp)
    have MA := Lib.hid (XGT.out _ _ _ _ _ _ HD.out.rebase (by omega))
    have SMP := Lib.hid (PSt.op (fun x y => x && y) MF.out SP.out)
    have SRM := Lib.hid (PSt.op (fun x y => x || y) SRQ.out SMP.out)
    clear H12 XG VP VQ PPQ PQP
    go_upto_region 12 with fail
    go_region_held3 (fun y => y.cell? ⟨w.heap.size, 0, none⟩ = some (.int .u32 (m.sa : Int)) ∧ y.cell? ⟨w.heap.size, 1, none⟩ = some (.int .i64 m.sl) ∧ y.cell? ⟨w.heap.size, 2, none⟩ = some (.int .u32 (m.da : Int)) ∧ y.cell? ⟨w.heap.size, 3, none⟩ = some (.int .i64 m.dl) ∧ y.cell? ⟨w.heap.size, 4, none⟩ = some (.int .i64 m.pr) ∧ y.cell? ⟨w.heap.size, 5, none⟩ = some (.int .i64 m.s0) ∧ y.cell? ⟨w.heap.size, 6, none⟩ = some (.int .i64 m.s1) ∧ y.cell? ⟨w.heap.size, 7, none⟩ = some (.int .i64 m.d0) ∧ y.cell? ⟨w.heap.size, 8, none⟩ = some (.int .i64 m.d1) ∧ y.cell? ⟨w.heap.size + 1, 0, none⟩ = some (.int .u32 (p.src : Int)) ∧ y.cell? ⟨w.heap.size + 1, 1, none⟩ = some (.int .u32 (p.dst : Int)) ∧ y.cell? ⟨w.heap.size + 1, 2, none⟩ = some (.int .i64 p.proto) ∧ y.cell? ⟨w.heap.size + 1, 3, none⟩ = some (.int .i64 p.sport) ∧ y.cell? ⟨w.heap.size + 1, 4, none⟩ = some (.int .i64 p.dport)) (first | exact S0.out | exact SA.out | exact SB.out | exact SC.out | exact SD.out) (first | (go_at_call 27; (with_reducible refine MA.out.mono ?_); intro e wa ha; obtain ⟨ra, Ma, La, rfl, _, fa⟩ := HD.out.step ha; have HA := Lib.hid fa; have SA := Lib.hid (CK.out _ fa.sd.kp); have PA := Lib.hid (PKP.out _ _ _ _ _ _ fa.rebase (by omega)); clear ha fa) | (go_at_call 25; (with_reducible refine PA.out.mono ?_); intro e wb hb; obtain ⟨rb, Mb, Lb, rfl, _, fb⟩ := HA.out.step hb; have HB := Lib.hid fb; have SB := Lib.hid (CK.out _ fb.sd.kp); have AN := Lib.hid (AndQ fb.rep fb.qk (.tail _ (.head _)) (.head _) SMP.out (by omega)); clear hb fb) | (go_at_call 24; (with_reducible refine AN.out.mono ?_); intro e wc hc; obtain ⟨rc, Mc, Lc, rfl, _, fc⟩ := HB.out.step hc; have HC := Lib.hid fc; have SC := Lib.hid (CK.out _ fc.sd.kp); have ON := Lib.hid (OrQ fc.rep fc.qk (.tail _ (.tail _ (.tail _ (.head _)))) (.head _) SRM.out (by omega)); clear hc fc) | (go_at_call 13; (with_reducible refine ON.out.mono ?_); intro e wd hd; obtain ⟨rd, Md, Ld, rfl, _, fd⟩ := HC.out.step hd; have HE := Lib.hid fd; have SD := Lib.hid (CK.out _ fd.sd.kp); clear hd fd))
    all_goals
      clear MA PA AN ON HD HA HB HC S0 SA SB SC SD
      go_wp2_with fail
      go_meet
      case rel => exact ⟨_, _, _, _, rfl, SRM.out.mono (by omega), (HE.out.sub (fun _ h => by rcases List.mem_singleton.1 h with rfl; exact .head _)).mono (by omega)⟩
  case rest =>
  obtain ⟨r, R, M13, L13, e16, sr, hh⟩ := hcut
  subst e16
  have SR := Lib.hid sr
  have H13 := Lib.hid hh
  clear sr hh H12 SRQ XG MF SP SQ PKP PKQ
  go_wp2_with fail
  refine (ExchangeQ H13.out.rep H13.out.qk (.head _) SR.out (by omega)).mono ?_
  intro e w14 h14
  obtain ⟨c, M14, L14, rfl, _, f14⟩ := H13.out.step h14
  have HD := Lib.hid (f14.no Kp.drew)
  have RD := Lib.hid (f14.qk.rd (.tail _ (.head _)))
  have SX := Lib.hid (rn_st (t := xch) (fun _ _ => rfl) RD.out SR.out)
  have XPQ := Lib.hid (rnF_enc RD.out p q)
  have XQP := Lib.hid (rnF_enc RD.out q p)
  obtain ⟨b1, hb1⟩ : ∃ b, R (asg (gL (encF (fun _ => false) p q))) = b := ⟨_, rfl⟩
  obtain ⟨b2, hb2⟩ : ∃ b, R (asg (gL (encF (fun _ => false) q p))) = b := ⟨_, rfl⟩
  have RPQ := Lib.hid hb1
  have RQP := Lib.hid hb2
  rw [hb1] at XQP
  rw [hb2] at XPQ
  clear hb1 hb2 h14 f14 H13 RD SR
  have CK : Hid (∀ y, Kp (L4.at pm) w4 y → y.cell? ⟨w.heap.size + 1, 0, none⟩ = some (.int .u32 (p.src : Int)) ∧ y.cell? ⟨w.heap.size + 1, 1, none⟩ = some (.int .u32 (p.dst : Int)) ∧ y.cell? ⟨w.heap.size + 1, 2, none⟩ = some (.int .i64 p.proto) ∧ y.cell? ⟨w.heap.size + 1, 3, none⟩ = some (.int .i64 p.sport) ∧ y.cell? ⟨w.heap.size + 1, 4, none⟩ = some (.int .i64 p.dport) ∧ y.cell? ⟨w.heap.size + 2, 0, none⟩ = some (.int .u32 (q.src : Int)) ∧ y.cell? ⟨w.heap.size + 2, 1, none⟩ = some (.int .u32 (q.dst : Int)) ∧ y.cell? ⟨w.heap.size + 2, 2, none⟩ = some (.int .i64 q.proto) ∧ y.cell? ⟨w.heap.size + 2, 3, none⟩ = some (.int .i64 q.sport) ∧ y.cell? ⟨w.heap.size + 2, 4, none⟩ = some (.int .i64 q.dport)) := Lib.hid (fun y ky => by
    have t := CT.out y ky
    obtain ⟨c0, c1, c2, c3, c4⟩ := t.pa
    obtain ⟨d0, d1, d2, d3, d4⟩ := t.pb
    exact ⟨c0, c1, c2, c3, c4, d0, d1, d2, d3, d4⟩)
  have S0 := Lib.hid (CK.out _ HD.out.sd.kp)
  clear VP VQ
  go_upto_region 14 with fail
  go_region_held3 (fun y => y.cell? ⟨w.heap.size + 1, 0, none⟩ = some (.int .u32 (p.src : Int)) ∧ y.cell? ⟨w.heap.size + 1, 1, none⟩ = some (.int .u32 (p.dst : Int)) ∧ y.cell? ⟨w.heap.size + 1, 2, none⟩ = some (.int .i64 p.proto) ∧ y.cell? ⟨w.heap.size + 1, 3, none⟩ = some (.int .i64 p.sport) ∧ y.cell? ⟨w.heap.size + 1, 4, none⟩ = some (.int .i64 p.dport) ∧ y.cell? ⟨w.heap.size + 2, 0, none⟩ = some (.int .u32 (q.src : Int)) ∧ y.cell? ⟨w.heap.size + 2, 1, none⟩ = some (.int .u32 (q.dst : Int)) ∧ y.cell? ⟨w.heap.size + 2, 2, none⟩ = some (.int .i64 q.proto) ∧ y.cell? ⟨w.heap.size + 2, 3, none⟩ = some (.int .i64 q.sport) ∧ y.cell? ⟨w.heap.size + 2, 4, none⟩ = some (.int .i64 q.dport)) (exact S0.out) (first | (go_at_call 29; (first | ((with_reducible refine (PPQ.out _ HD.out.gl).mono ?_); rintro e wa ⟨ga, rfl, row, ka⟩; replace HD := Lib.hid (HD.out.no ka); have EC := Lib.hid (EvalQ HD.out.rep HD.out.qk (f := c) (F := rnF xch R) (List.Mem.head _) (bools_row row)); have ER := Lib.hid (EvalQ HD.out.rep HD.out.qk (f := r) (F := R) (List.Mem.tail _ (List.Mem.head _)) (bools_row row)); rw [XPQ.out] at EC; rw [RPQ.out] at ER; replace S0 := Lib.hid (CK.out _ HD.out.sd.kp); clear ka row) | ((with_reducible refine (PQP.out _ HD.out.gl).mono ?_); rintro e wa ⟨ga, rfl, row, ka⟩; replace HD := Lib.hid (HD.out.no ka); have EC := Lib.hid (EvalQ HD.out.rep HD.out.qk (f := c) (F := rnF xch R) (List.Mem.head _) (bools_row row)); have ER := Lib.hid (EvalQ HD.out.rep HD.out.qk (f := r) (F := R) (List.Mem.tail _ (List.Mem.head _)) (bools_row row)); rw [XQP.out] at EC; rw [RQP.out] at ER; replace S0 := Lib.hid (CK.out _ HD.out.sd.kp); clear ka row))) | (go_at_call 28; (first | (with_reducible refine EC.out.mono ?_) | (with_reducible refine ER.out.mono ?_)); rintro e wb ⟨rfl, kb⟩; replace HD := Lib.hid (HD.out.no kb); replace S0 := Lib.hid (CK.out _ HD.out.sd.kp); clear kb EC ER) | (go_at_call 23; have EX := Lib.hid (ExchangeQ HD.out.rep HD.out.qk (f := c) (F := rnF xch R) (List.Mem.head _) SX.out (by omega)); (with_reducible refine EX.out.mono ?_); clear EX; intro e wz hz; obtain ⟨rz, Mz, Lz, rfl, _, fz⟩ := HD.out.step hz; have er : rz = r := fz.qk.eq (List.Mem.head _) (List.Mem.tail _ (List.Mem.tail _ (List.Mem.head _))) (fun a => by rw [rnF_rnF]); subst er; have HZ := Lib.hid fz; replace S0 := Lib.hid (CK.out _ HZ.out.sd.kp); clear hz fz))
  all_goals
    have KP := Lib.hid (CT.out _ HZ.out.sd.kp).kp
    clear HZ HD S0 XPQ XQP RPQ RQP SX PPQ PQP CK
    go_wp2_with fail
    go_ret
    exact ⟨by simp, KP.out⟩

end Go.Proofs.YtohinonkfhkclaaDoor
