/-
  Walks: the law HeaderMatches.
-/
import Derived.Test.YtgglkldoclejaaaDoorMm
import Derived.Test.YtgglkldoclejaaaDoorSto
import Derived.Deep.CutBlock
import Derived.Deep.DeepCutAuto
namespace Go.Proofs.YtgglkldoclejaaaDoor
open Go.RowKit

theorem PkAt.of_row' {x : World} {b : Nat} {q : Pkt} {t : TypeId} (h : x.heap[b]? = some (.cells #[.int .u32 (q.src : Int), .int .u32 (q.dst : Int), .int .i64 q.proto, .int .i64 q.sport, .int .i64 q.dport] t (0, 0))) : PkAt x b q :=
  ⟨by rw [cell_of_row _ _ _ _ _ _ h]; rfl, by rw [cell_of_row _ _ _ _ _ _ h]; rfl, by rw [cell_of_row _ _ _ _ _ _ h]; rfl, by rw [cell_of_row _ _ _ _ _ _ h]; rfl, by rw [cell_of_row _ _ _ _ _ _ h]; rfl⟩

/-- A match and two packets in memory behind the law's arguments. -/
structure TwoM (w : World) (m : Mt) (p q : Pkt) (x : World) : Prop where
  t : Two2 w (w.heap.size + 1) (w.heap.size + 2) p q x
  bx : MtAt x w.heap.size m
section
variable {w : World} {m : Mt} {p q : Pkt} {x y : World}
theorem TwoM.gl (t : TwoM w m p q x) : Gl x := t.t.gl
theorem TwoM.kp (t : TwoM w m p q x) : Kp No w x := t.t.kp
theorem TwoM.pa (t : TwoM w m p q x) : PkAt x (w.heap.size + 1) p := t.t.pa
theorem TwoM.pb (t : TwoM w m p q x) : PkAt x (w.heap.size + 2) q := t.t.pb
theorem TwoM.no (t : TwoM w m p q x) (k : Kp No x y) : TwoM w m p q y := ⟨t.t.no k, t.bx.no k⟩
theorem TwoM.mgr {A : Nat → Prop} {N : Nat} (t : TwoM w m p q x) (k : Kp A x y) (hA : ∀ b, A b → N ≤ b) (h1 : w.heap.size + 2 < N) : TwoM w m p q y :=
  ⟨t.t.mgr k hA (by omega) (by omega) (by omega), t.bx.kp k (fun h => by have := hA _ h; omega)⟩
theorem TwoM.new (g : Gl w) (m : Mt) (p q : Pkt) : TwoM w m p q (((w.alloc (.cells #[.int .u32 (m.sa : Int), .int .i64 m.sl, .int .u32 (m.da : Int), .int .i64 m.dl, .int .i64 m.pr, .int .i64 m.s0, .int .i64 m.s1, .int .i64 m.d0, .int .i64 m.d1] 66)).alloc (.cells #[.int .u32 (p.src : Int), .int .u32 (p.dst : Int), .int .i64 p.proto, .int .i64 p.sport, .int .i64 p.dport] 29)).alloc (.cells #[.int .u32 (q.src : Int), .int .u32 (q.dst : Int), .int .i64 q.proto, .int .i64 q.sport, .int .i64 q.dport] 29)) := by
  have k1 : Kp No w (w.alloc (.cells #[.int .u32 (m.sa : Int), .int .i64 m.sl, .int .u32 (m.da : Int), .int .i64 m.dl, .int .i64 m.pr, .int .i64 m.s0, .int .i64 m.s1, .int .i64 m.d0, .int .i64 m.d1] 66)) := Kp.alloc _
  have hb := MtAt.new w m
  have h2 := Two2.new2 (g.no k1) p q
  have hs : (w.alloc (.cells #[.int .u32 (m.sa : Int), .int .i64 m.sl, .int .u32 (m.da : Int), .int .i64 m.dl, .int .i64 m.pr, .int .i64 m.s0, .int .i64 m.s1, .int .i64 m.d0, .int .i64 m.d1] 66)).heap.size = w.heap.size + 1 := by simp
  refine ⟨⟨k1.trans_no h2.kp, h2.gl, ?_, ?_, g⟩, hb.no h2.kp⟩
  · have := h2.pa; rw [hs] at this; exact this
  · have := h2.pb; rw [hs] at this; exact this
end

set_option maxRecDepth 100000 in
theorem Match_bad (m : Mt) (hm : mtB m = false) (p : Nat) (nx : Bool) (w : World) : Calls Tryd.prog 42 #[ptr p, .bool nx, mtV m] w fun e w' => e = .returned (.int .i64 (-1)) ∧ Kp No w w' := by
  have VM := Lib.hid (fun (y : World) => ValidMatch_ok m y)
  rw [hm] at VM
  have M0 := Lib.hid (MtAt.new w m)
  have KA := Lib.hid (Kp.alloc (w := w) (.cells #[.int .u32 (m.sa : Int), .int .i64 m.sl, .int .u32 (m.da : Int), .int .i64 m.dl, .int .i64 m.pr, .int .i64 m.s0, .int .i64 m.s1, .int .i64 m.d0, .int .i64 m.d1] 66))
  unfold mtV
  clear hm
  go_enter Tryd.func42, Tryd.ntmps42
  obtain ⟨c0, c1, c2, c3, c4, c5, c6, c7, c8⟩ := M0.out.c
  go_wp2_with fail
  refine (VM.out _).mono ?_
  rintro e w1 ⟨rfl, k1⟩
  have K1 := Lib.hid (KA.out.trans_no k1)
  clear k1 c0 c1 c2 c3 c4 c5 c6 c7 c8
  go_wp2_with fail
  go_ret
  exact ⟨rfl, K1.out⟩

theorem mt_enc (dn : Nat → Bool) {p q : Pkt} (hp : p.ok) (hq : q.ok) (nx : Bool) {m : Mt} (h32 : m.in32) (hm : mtB m = true) : mtF m nx (asg (gL (encF dn p q))) = mkB m (if nx then q else p) := by
  obtain ⟨hvs, hvd, hpr, hs, hd⟩ := mtB_true hm
  obtain ⟨z, hz⟩ : ∃ z, (if nx then q else p) = z := ⟨_, rfl⟩
  have hzo : z.ok := by rw [← hz]; cases nx <;> simp [hp, hq]
  have e0 : wiF 0 nx m.sa (ntN (mkN (clI m.sl))) 32 (asg (gL (encF dn p q))) = ctB m.sa m.sl z.src := by
    rw [Bool.eq_iff_iff, show (32 : Nat) = fw 0 from rfl, wild_enc dn p q (by omega) nx m.sa _, hz, show fw 0 = 32 from rfl, ct_iff h32.h0 hvs hzo.h0]
    exact Iff.rfl
  have e1 : wiF 1 nx m.da (ntN (mkN (clI m.dl))) 32 (asg (gL (encF dn p q))) = ctB m.da m.dl z.dst := by
    rw [Bool.eq_iff_iff, show (32 : Nat) = fw 1 from rfl, wild_enc dn p q (by omega) nx m.da _, hz, show fw 1 = 32 from rfl, ct_iff h32.h1 hvd hzo.h1]
    exact Iff.rfl
  have e2 := rgF_enc dn hp hq (k := 2) (by omega) nx (u32 m.pr) (u32 m.pr)
  have e3 := rgF_enc dn hp hq (k := 3) (by omega) nx (u32 m.s0) (u32 m.s1)
  have e4 := rgF_enc dn hp hq (k := 4) (by omega) nx (u32 m.d0) (u32 m.d1)
  rw [hz] at e2 e3 e4
  have f2 : ((z.f 2 : Nat) : Int) = z.proto := by show ((u32 z.proto : Nat) : Int) = _; have := hzo.h2; rw [u32_cast]; omega
  have f3 : ((z.f 3 : Nat) : Int) = z.sport := by show ((u32 z.sport : Nat) : Int) = _; have := hzo.h3; rw [u32_cast]; omega
  have f4 : ((z.f 4 : Nat) : Int) = z.dport := by show ((u32 z.dport : Nat) : Int) = _; have := hzo.h4; rw [u32_cast]; omega
  have g3 := u32_cast m.s0
  have g3' := u32_cast m.s1
  have g4 := u32_cast m.d0
  have g4' := u32_cast m.d1
  have i3 : rgF 3 nx (u32 m.s0) (u32 m.s1) (asg (gL (encF dn p q))) = inB m.s0 m.s1 z.sport := by
    rw [e3]; unfold inB; rw [decide_eq_decide]; omega
  have i4 : rgF 4 nx (u32 m.d0) (u32 m.d1) (asg (gL (encF dn p q))) = inB m.d0 m.d1 z.dport := by
    rw [e4]; unfold inB; rw [decide_eq_decide]; omega
  rw [hz]
  unfold mtF mf3 mfx mkB
  rw [i3, i4]
  by_cases h0 : 0 ≤ m.pr
  · rw [if_pos h0]
    have gp := u32_cast m.pr
    have i2 : rgF 2 nx (u32 m.pr) (u32 m.pr) (asg (gL (encF dn p q))) = (m.pr == -1 || m.pr == z.proto) := by
      rw [e2, Bool.eq_iff_iff, decide_eq_true_eq]; simp; omega
    unfold mf2 mf1
    rw [e0, e1, i2]
    simp only [Bool.and_assoc]
  · rw [if_neg h0]
    have hm1 : (m.pr == -1) = true := by simp; omega
    unfold mf1
    rw [e0, e1, hm1]
    simp only [Bool.and_assoc, Bool.true_or, Bool.true_and]

set_option maxRecDepth 100000 in
set_option maxHeartbeats 8000000 in
theorem HeaderMatches_walk (m : Mt) (nx : Bool) (p q : Pkt) (h32 : m.in32) (hp : p.in32) (hq : q.in32) {w : World} (g : Gl w) :
    Calls Tryd.prog 10 #[mtV m, .bool nx, pktV p, pktV q] w fun e w' => e = .returned (.bool true) ∧ Kp No w w' := by
  have T0 := Lib.hid (TwoM.new g m p q)
  clear g
  unfold mtV
  have AW := Lib.hid (fun (y : World) (h : Gl y) => hawake_ok h)
  have VP := Lib.hid (fun (y : World) => ValidPacket_ok p y)
  have VQ := Lib.hid (fun (y : World) => ValidPacket_ok q y)
  cases hvp : vpB p
  · rw [hvp] at VP
    clear hvp
    unfold pktV at VP VQ ⊢
    go_enter Tryd.func10, Tryd.ntmps10
    go_wp2_with fail
    refine (AW.out _ T0.out.gl).mono ?_
    rintro e w1 ⟨rfl, k1⟩
    have T1 := Lib.hid (T0.out.no k1)
    clear k1 T0
    obtain ⟨c0, c1, c2, c3, c4⟩ := T1.out.pa
    go_wp2_with fail
    refine (VP.out _).mono ?_
    rintro e w2 ⟨rfl, k2⟩
    have T2 := Lib.hid (T1.out.no k2)
    clear k2 T1 c0 c1 c2 c3 c4
    go_wp2_with fail
    go_ret
    exact ⟨rfl, T2.out.kp⟩
  rw [hvp] at VP
  have hpo := vpB_true hp hvp
  cases hvq : vpB q
  · rw [hvq] at VQ
    clear hvq hvp hpo
    unfold pktV at VP VQ ⊢
    go_enter Tryd.func10, Tryd.ntmps10
    go_wp2_with fail
    refine (AW.out _ T0.out.gl).mono ?_
    rintro e w1 ⟨rfl, k1⟩
    have T1 := Lib.hid (T0.out.no k1)
    clear k1 T0
    obtain ⟨c0, c1, c2, c3, c4⟩ := T1.out.pa
    go_wp2_with fail
    refine (VP.out _).mono ?_
    rintro e w2 ⟨rfl, k2⟩
    have T2 := Lib.hid (T1.out.no k2)
    clear k2 T1 c0 c1 c2 c3 c4
    obtain ⟨d0, d1, d2, d3, d4⟩ := T2.out.pb
    go_wp2_with fail
    refine (VQ.out _).mono ?_
    rintro e w3 ⟨rfl, k3⟩
    have T3 := Lib.hid (T2.out.no k3)
    clear k3 T2 d0 d1 d2 d3 d4
    go_wp2_with fail
    go_ret
    exact ⟨rfl, T3.out.kp⟩
  rw [hvq] at VQ
  have hqo := vpB_true hq hvq
  have NEW := Lib.hid (fun (y : World) => HNew_ok y)
  clear hvp hvq
  have VS := Lib.hid (fun (y : World) => Valid_ok m.sa m.sl y)
  have VD := Lib.hid (fun (y : World) => Valid_ok m.da m.dl y)
  have PS := Lib.hid (fun (y : World) => ports_ok m.s0 m.s1 y)
  have PD := Lib.hid (fun (y : World) => ports_ok m.d0 m.d1 y)
  have VM := Lib.hid (fun (y : World) => ValidMatch_ok m y)
  have MB : Hid (mtB m = (pvB m.sa m.sl && (pvB m.da m.dl && (decide (-1 ≤ m.pr) && (decide (m.pr ≤ 255) && (ptB m.s0 m.s1 && ptB m.d0 m.d1)))))) := Lib.hid rfl
  obtain ⟨ok, hok⟩ : ∃ b, mtB m = b := ⟨_, rfl⟩
  have PR := Lib.hid (fun (y : World) (h : Gl y) => pair_ok p q hp hq h)
  have XB := Lib.hid (fun (h : ok = false) (pm : Nat) (y : World) => Match_bad m (hok.trans h) pm nx y)
  have XG := Lib.hid (fun (h : ok = true) (c : Nat) (M : Mgr) (L : Lay) (B : List (Int × Bfn)) (y : World) (pm : Nat) (f : Hf y pm L 220 c y M L B) (hc : c ≤ 400000000000) => Match_ok m h32 (hok.trans h) nx f.rep f.qk f.gl f.off hc)
  have XI := Lib.hid (fun (h : ok = true) (z : Pkt) (hz : z.ok) (y : World) => In_ok m z (hok.trans h) hz.vp hz.in32 y)
  have EN := Lib.hid (fun (h : ok = true) => mt_enc (fun _ => false) hpo hqo nx h32 (hok.trans h))
  have CS := Lib.hid (fun (z : Pkt) (hz : z.ok) (y : World) => Contains_ok m.sa m.sl z.src hz.h0 y)
  have CD := Lib.hid (fun (z : Pkt) (hz : z.ok) (y : World) => Contains_ok m.da m.dl z.dst hz.h1 y)
  have WI := Lib.hid (fun (lo hi n : Int) (y : World) => within_ok lo hi n y)
  have HPO := Lib.hid hpo
  have HQO := Lib.hid hqo
  rw [hok] at VM MB
  clear hok hpo hqo hp hq h32
  unfold pktV mtV at *
  go_enter Tryd.func10, Tryd.ntmps10
  go_wp2_with fail
  refine (AW.out _ T0.out.gl).mono ?_
  rintro e w1 ⟨rfl, k1⟩
  have T1 := Lib.hid (T0.out.no k1)
  clear k1 T0
  obtain ⟨c0, c1, c2, c3, c4⟩ := T1.out.pa
  go_wp2_with fail
  refine (VP.out _).mono ?_
  rintro e w2 ⟨rfl, k2⟩
  have T2 := Lib.hid (T1.out.no k2)
  clear k2 T1 c0 c1 c2 c3 c4
  obtain ⟨d0, d1, d2, d3, d4⟩ := T2.out.pb
  go_wp2_with fail
  refine (VQ.out _).mono ?_
  rintro e w3 ⟨rfl, k3⟩
  have T3 := Lib.hid (T2.out.no k3)
  clear k3 T2 d0 d1 d2 d3 d4
  go_wp2_with fail
  refine (NEW.out _).mono ?_
  rintro e w4 ⟨pm, L4, rfl, R4, k4, o4⟩
  have T4 := Lib.hid (T3.out.no k4)
  have H4 := Lib.hid (hf_new T3.out.gl (Kp.refl No w3) R4 k4 o4)
  have O4 : Hid (∀ x, L4.at pm x → w.heap.size ≤ x) := Lib.hid (fun x hx => by have := o4 x hx; have := T3.out.kp.size; omega)
  have B4 : Hid (∀ x, L4.at pm x → w3.heap.size ≤ x) := Lib.hid o4
  clear R4 k4 o4 NEW
  have B4' : Hid (∀ b, L4.at pm b → w.heap.size + 3 ≤ b) := Lib.hid (fun b hb => by have := B4.out b hb; have := T3.out.pb.lt; omega)
  clear T3 O4 B4
  go_upto_region 6 with fail
  go_cut [10] (fun s10 x => s10 = .bool ok ∧ TwoM w m p q x ∧ Hf x pm L4 220 2 x (Mgr.new 220) L4 [])
  case first =>
    clear VM XB XG XI EN CS CD WI PR HPO HQO
    generalize pvB m.sa m.sl = b1 at *
    generalize pvB m.da m.dl = b2 at *
    generalize ptB m.s0 m.s1 = b5 at *
    generalize ptB m.d0 m.d1 = b6 at *
    obtain ⟨c0, c1, c2, c3, c4, c5, c6, c7, c8⟩ := T4.out.bx.c
    go_wp2_with fail
    refine (VS.out _).mono ?_
    rintro e v1 ⟨rfl, k1⟩
    have Tv1 := Lib.hid (T4.out.no k1)
    have Hv1 := Lib.hid (H4.out.no k1).rebase
    clear k1
    clear c0 c1 c2 c3 c4 c5 c6 c7 c8
    obtain ⟨c0, c1, c2, c3, c4, c5, c6, c7, c8⟩ := Tv1.out.bx.c
    cases b1
    · go_wp2_with fail
      go_meet
      case rel => exact ⟨by rw [MB.out]; rfl, Tv1.out, Hv1.out⟩
    go_wp2_with fail
    refine (VD.out _).mono ?_
    rintro e v2 ⟨rfl, k2⟩
    have Tv2 := Lib.hid (Tv1.out.no k2)
    have Hv2 := Lib.hid (Hv1.out.no k2).rebase
    clear k2
    clear c0 c1 c2 c3 c4 c5 c6 c7 c8
    obtain ⟨c0, c1, c2, c3, c4, c5, c6, c7, c8⟩ := Tv2.out.bx.c
    cases b2
    · go_wp2_with fail
      go_meet
      case rel => exact ⟨by rw [MB.out]; rfl, Tv2.out, Hv2.out⟩
    by_cases h3 : -1 ≤ m.pr
    case neg =>
      rw [decide_eq_false h3] at MB
      go_wp2_with fail
      go_meet
      case rel => exact ⟨by rw [MB.out]; rfl, Tv2.out, Hv2.out⟩
    rw [decide_eq_true h3] at MB
    by_cases h4 : m.pr ≤ 255
    case neg =>
      rw [decide_eq_false h4] at MB
      go_wp2_with fail
      go_meet
      case rel => exact ⟨by rw [MB.out]; rfl, Tv2.out, Hv2.out⟩
    rw [decide_eq_true h4] at MB
    go_wp2_with fail
    refine (PS.out _).mono ?_
    rintro e v3 ⟨rfl, k3⟩
    have Tv3 := Lib.hid (Tv2.out.no k3)
    have Hv3 := Lib.hid (Hv2.out.no k3).rebase
    clear k3
    clear c0 c1 c2 c3 c4 c5 c6 c7 c8
    obtain ⟨c0, c1, c2, c3, c4, c5, c6, c7, c8⟩ := Tv3.out.bx.c
    cases b5
    · go_wp2_with fail
      go_meet
      case rel => exact ⟨by rw [MB.out]; rfl, Tv3.out, Hv3.out⟩
    go_wp2_with fail
    refine (PD.out _).mono ?_
    rintro e v4 ⟨rfl, k4⟩
    have Tv4 := Lib.hid (Tv3.out.no k4)
    have Hv4 := Lib.hid (Hv3.out.no k4).rebase
    clear k4
    clear c0 c1 c2 c3 c4 c5 c6 c7 c8
    obtain ⟨c0, c1, c2, c3, c4, c5, c6, c7, c8⟩ := Tv4.out.bx.c
    go_wp2_with fail
    go_meet
    case rel => exact ⟨by rw [MB.out]; rfl, Tv4.out, Hv4.out⟩
  case rest =>
  obtain ⟨e10, tt, hh⟩ := hcut
  subst e10
  have T5 := Lib.hid tt
  have H5 := Lib.hid hh
  clear tt hh T4 H4 VS VD PS PD MB
  generalize wc = w5 at *
  cases ok
  · have XBF := Lib.hid (XB.out rfl)
    clear XB XG XI EN CS CD WI PR HPO HQO
    obtain ⟨c0, c1, c2, c3, c4, c5, c6, c7, c8⟩ := T5.out.bx.c
    go_wp2_with fail
    refine (XBF.out _ _).mono ?_
    rintro e w6 ⟨rfl, k6⟩
    have T6 := Lib.hid (T5.out.no k6)
    clear k6 c0 c1 c2 c3 c4 c5 c6 c7 c8
    obtain ⟨c0, c1, c2, c3, c4, c5, c6, c7, c8⟩ := T6.out.bx.c
    go_wp2_with fail
    refine (VM.out _).mono ?_
    rintro e w7 ⟨rfl, k7⟩
    have T7 := Lib.hid (T6.out.no k7)
    clear k7 c0 c1 c2 c3 c4 c5 c6 c7 c8
    go_wp2_with fail
    go_ret
    exact ⟨rfl, T7.out.kp⟩
  have XGT := Lib.hid (XG.out rfl)
  have XIT := Lib.hid (XI.out rfl)
  have ENT := Lib.hid (EN.out rfl)
  clear XG XI EN XB
  obtain ⟨c0, c1, c2, c3, c4, c5, c6, c7, c8⟩ := T5.out.bx.c
  go_wp2_with fail
  refine Calls.mono (XGT.out _ _ _ _ _ _ H5.out (by omega)) ?_
  intro e w6 h6
  obtain ⟨r, M6, L6, rfl, hr, f6⟩ := H5.out.step h6
  have T6 := Lib.hid (T5.out.mgr f6.sd.kp B4'.out (by omega))
  have H6 := Lib.hid f6.rebase
  clear h6 f6 c0 c1 c2 c3 c4 c5 c6 c7 c8
  obtain ⟨c0, c1, c2, c3, c4, c5, c6, c7, c8⟩ := T6.out.bx.c
  go_wp2_with fail
  refine (VM.out _).mono ?_
  rintro e w7 ⟨rfl, k7⟩
  have T7 := Lib.hid (T6.out.no k7)
  have H7 := Lib.hid (H6.out.no k7).rebase
  clear k7 c0 c1 c2 c3 c4 c5 c6 c7 c8 T6 H6 T5 H5
  obtain ⟨c0, c1, c2, c3, c4⟩ := T7.out.pa
  obtain ⟨d0, d1, d2, d3, d4⟩ := T7.out.pb
  go_upto_region 13 with fail
  have T8 := Lib.hid (T7.out.no (Kp.alloc (.cells #[.int .u32 (p.src : Int), .int .u32 (p.dst : Int), .int .i64 p.proto, .int .i64 p.sport, .int .i64 p.dport] 29)))
  have H8 := Lib.hid (H7.out.no (Kp.alloc (.cells #[.int .u32 (p.src : Int), .int .u32 (p.dst : Int), .int .i64 p.proto, .int .i64 p.sport, .int .i64 p.dport] 29))).rebase
  have BZ : Hid ((w7.alloc (.cells #[.int .u32 (p.src : Int), .int .u32 (p.dst : Int), .int .i64 p.proto, .int .i64 p.sport, .int .i64 p.dport] 29)).heap[w7.heap.size]? = some (.cells #[.int .u32 (p.src : Int), .int .u32 (p.dst : Int), .int .i64 p.proto, .int .i64 p.sport, .int .i64 p.dport] 29 (0, 0))) := Lib.hid (heap_alloc_new _ _)
  have hlt : w.heap.size + 2 < w7.heap.size := T7.out.pb.lt
  have NL : Hid (¬ L6.at pm w7.heap.size) := Lib.hid (fun h => by have := H7.out.rep.lt _ h; omega)
  clear c0 c1 c2 c3 c4 d0 d1 d2 d3 d4 T7 H7
  generalize w7.alloc (.cells #[.int .u32 (p.src : Int), .int .u32 (p.dst : Int), .int .i64 p.proto, .int .i64 p.sport, .int .i64 p.dport] 29) = w8 at *
  generalize w7.heap.size = bz at *
  clear w7
  have HB := Lib.hid hlt
  clear hlt
  go_upto_if 66 with fail
  go_cut [] (fun x => TwoM w m p q x ∧ Hf x pm L6 220 (2 + 100000000) x M6 L6 ((r, mtF m nx) :: []) ∧ PkAt x bz (if nx then q else p))
  case first =>
    clear VM XGT XIT ENT PR CS CD WI
    cases nx
    · go_wp2_with fail
      go_meet
      case rel => exact ⟨T8.out, H8.out, PkAt.of_row' BZ.out⟩
    · obtain ⟨d0, d1, d2, d3, d4⟩ := T8.out.pb
      go_upto_region 14 with fail
      go_wp2_with (refine wpList_store_arr rfl _ _ _ rfl bz #[.int .u32 (q.src : Int), .int .u32 (q.dst : Int), .int .i64 q.proto, .int .i64 q.sport, .int .i64 q.dport] ?_ ?_ 29 _ BZ.out ?_ ?_ ?_ ?_; rfl; rfl; kernel_rfl; rfl; (simp [Value.oneCell']); intro w9 hw9 kw9)
      have T9 := Lib.hid (T8.out.mgr kw9 (N := bz) (fun b e => by have := e; omega) HB.out)
      have H9 := Lib.hid (Hf.start (H8.out.rep.kp kw9 (fun b e hx => by rw [e] at hx; exact NL.out hx)) H8.out.qk T9.out.gl H8.out.off)
      have Z9 := Lib.hid (PkAt.of_row' hw9)
      clear hw9 kw9 d0 d1 d2 d3 d4
      go_meet
      case rel => exact ⟨T9.out, H9.out, Z9.out⟩
  case rest =>
  obtain ⟨tt, hh, zz⟩ := hcut
  have T10 := Lib.hid tt
  have H10 := Lib.hid hh
  obtain ⟨z, hz⟩ : ∃ z, (if nx then q else p) = z := ⟨_, rfl⟩
  have hzo : z.ok := by rw [← hz]; cases nx <;> simp [HPO.out, HQO.out]
  rw [hz] at zz ENT
  have Z10 := Lib.hid zz
  have XIZ := Lib.hid (XIT.out z hzo)
  have CSZ := Lib.hid (CS.out z hzo)
  have CDZ := Lib.hid (CD.out z hzo)
  clear tt hh zz T8 H8 BZ NL XIT CS CD VM XGT HPO HQO hz hzo
  generalize wc = w10 at *
  obtain ⟨rr, hrr⟩ : ∃ rr, mkB m z = rr := ⟨_, rfl⟩
  have HR := Lib.hid hrr
  rw [hrr] at XIZ ENT
  clear hrr
  go_upto_region 15 with fail
  go_cut [13] (fun s13 x => s13 = .bool rr ∧ TwoM w m p q x ∧ Hf x pm L6 220 (2 + 100000000) x M6 L6 ((r, mtF m nx) :: []) ∧ PkAt x bz z)
  case first =>
    clear PR ENT XIZ
    have W1 := Lib.hid (WI.out m.s0 m.s1 z.sport)
    have W2 := Lib.hid (WI.out m.d0 m.d1 z.dport)
    obtain ⟨b3, hb3⟩ : ∃ b, (m.pr == -1 || m.pr == z.proto) = b := ⟨_, rfl⟩
    have H3 := Lib.hid hb3
    have HE : Hid (rr = (ctB m.sa m.sl z.src && (ctB m.da m.dl z.dst && (b3 && (inB m.s0 m.s1 z.sport && inB m.d0 m.d1 z.dport))))) := Lib.hid (by rw [← hb3]; exact HR.out.symm)
    clear WI hb3 HR
    generalize ctB m.sa m.sl z.src = b1 at *
    generalize ctB m.da m.dl z.dst = b2 at *
    generalize inB m.s0 m.s1 z.sport = b4 at *
    generalize inB m.d0 m.d1 z.dport = b5 at *
    obtain ⟨c0, c1, c2, c3, c4, c5, c6, c7, c8⟩ := T10.out.bx.c
    obtain ⟨z0, z1, z2, z3, z4⟩ := Z10.out
    go_wp2_with fail
    refine (CSZ.out _).mono ?_
    rintro e u1 ⟨rfl, k1⟩
    have Tu1 := Lib.hid (T10.out.no k1)
    have Hu1 := Lib.hid (H10.out.no k1).rebase
    have Zu1 := Lib.hid (Z10.out.no k1)
    clear k1 z0 z1 z2 z3 z4 c0 c1 c2 c3 c4 c5 c6 c7 c8
    cases b1
    · obtain ⟨c0, c1, c2, c3, c4, c5, c6, c7, c8⟩ := Tu1.out.bx.c
      obtain ⟨z0, z1, z2, z3, z4⟩ := Zu1.out
      go_wp2_with fail
      go_meet
      case rel => exact ⟨by rw [HE.out]; rfl, Tu1.out, Hu1.out, Zu1.out⟩
    obtain ⟨c0, c1, c2, c3, c4, c5, c6, c7, c8⟩ := Tu1.out.bx.c
    obtain ⟨z0, z1, z2, z3, z4⟩ := Zu1.out
    go_wp2_with fail
    refine (CDZ.out _).mono ?_
    rintro e u2 ⟨rfl, k2⟩
    have Tu2 := Lib.hid (Tu1.out.no k2)
    have Hu2 := Lib.hid (Hu1.out.no k2).rebase
    have Zu2 := Lib.hid (Zu1.out.no k2)
    clear k2 z0 z1 z2 z3 z4 c0 c1 c2 c3 c4 c5 c6 c7 c8
    cases b2
    · obtain ⟨c0, c1, c2, c3, c4, c5, c6, c7, c8⟩ := Tu2.out.bx.c
      obtain ⟨z0, z1, z2, z3, z4⟩ := Zu2.out
      go_wp2_with fail
      go_meet
      case rel => exact ⟨by rw [HE.out]; rfl, Tu2.out, Hu2.out, Zu2.out⟩
    cases b3
    · have h3a : (m.pr == -1) = false := by have := H3.out; simp at this ⊢; exact this.1
      have h3b : (m.pr == z.proto) = false := by have := H3.out; simp at this ⊢; exact this.2
      obtain ⟨c0, c1, c2, c3, c4, c5, c6, c7, c8⟩ := Tu2.out.bx.c
      obtain ⟨z0, z1, z2, z3, z4⟩ := Zu2.out
      go_wp2_with fail
      go_meet
      case rel => exact ⟨by rw [HE.out]; rfl, Tu2.out, Hu2.out, Zu2.out⟩
    by_cases hpr : m.pr = -1
    · have hpr' : (m.pr == -1) = true := by rw [hpr]; rfl
      clear hpr
      obtain ⟨c0, c1, c2, c3, c4, c5, c6, c7, c8⟩ := Tu2.out.bx.c
      obtain ⟨z0, z1, z2, z3, z4⟩ := Zu2.out
      go_wp2_with fail
      refine (W1.out _).mono ?_
      rintro e u3 ⟨rfl, k3⟩
      have Tu3 := Lib.hid (Tu2.out.no k3)
      have Hu3 := Lib.hid (Hu2.out.no k3).rebase
      have Zu3 := Lib.hid (Zu2.out.no k3)
      clear k3 z0 z1 z2 z3 z4 c0 c1 c2 c3 c4 c5 c6 c7 c8
      cases b4
      · obtain ⟨c0, c1, c2, c3, c4, c5, c6, c7, c8⟩ := Tu3.out.bx.c
        obtain ⟨z0, z1, z2, z3, z4⟩ := Zu3.out
        go_wp2_with fail
        go_meet
        case rel => exact ⟨by rw [HE.out]; rfl, Tu3.out, Hu3.out, Zu3.out⟩
      obtain ⟨c0, c1, c2, c3, c4, c5, c6, c7, c8⟩ := Tu3.out.bx.c
      obtain ⟨z0, z1, z2, z3, z4⟩ := Zu3.out
      go_wp2_with fail
      refine (W2.out _).mono ?_
      rintro e u4 ⟨rfl, k4⟩
      have Tu4 := Lib.hid (Tu3.out.no k4)
      have Hu4 := Lib.hid (Hu3.out.no k4).rebase
      have Zu4 := Lib.hid (Zu3.out.no k4)
      clear k4 z0 z1 z2 z3 z4 c0 c1 c2 c3 c4 c5 c6 c7 c8
      obtain ⟨c0, c1, c2, c3, c4, c5, c6, c7, c8⟩ := Tu4.out.bx.c
      obtain ⟨z0, z1, z2, z3, z4⟩ := Zu4.out
      go_wp2_with fail
      go_meet
      case rel => exact ⟨by rw [HE.out]; rfl, Tu4.out, Hu4.out, Zu4.out⟩
    · have hpr' : (m.pr == -1) = false := by simp [hpr]
      have h3 := H3.out
      rw [hpr', Bool.false_or] at h3
      clear hpr
      obtain ⟨c0, c1, c2, c3, c4, c5, c6, c7, c8⟩ := Tu2.out.bx.c
      obtain ⟨z0, z1, z2, z3, z4⟩ := Zu2.out
      go_wp2_with fail
      refine (W1.out _).mono ?_
      rintro e u3 ⟨rfl, k3⟩
      have Tu3 := Lib.hid (Tu2.out.no k3)
      have Hu3 := Lib.hid (Hu2.out.no k3).rebase
      have Zu3 := Lib.hid (Zu2.out.no k3)
      clear k3 z0 z1 z2 z3 z4 c0 c1 c2 c3 c4 c5 c6 c7 c8
      cases b4
      · obtain ⟨c0, c1, c2, c3, c4, c5, c6, c7, c8⟩ := Tu3.out.bx.c
        obtain ⟨z0, z1, z2, z3, z4⟩ := Zu3.out
        go_wp2_with fail
        go_meet
        case rel => exact ⟨by rw [HE.out]; rfl, Tu3.out, Hu3.out, Zu3.out⟩
      obtain ⟨c0, c1, c2, c3, c4, c5, c6, c7, c8⟩ := Tu3.out.bx.c
      obtain ⟨z0, z1, z2, z3, z4⟩ := Zu3.out
      go_wp2_with fail
      refine (W2.out _).mono ?_
      rintro e u4 ⟨rfl, k4⟩
      have Tu4 := Lib.hid (Tu3.out.no k4)
      have Hu4 := Lib.hid (Hu3.out.no k4).rebase
      have Zu4 := Lib.hid (Zu3.out.no k4)
      clear k4 z0 z1 z2 z3 z4 c0 c1 c2 c3 c4 c5 c6 c7 c8
      obtain ⟨c0, c1, c2, c3, c4, c5, c6, c7, c8⟩ := Tu4.out.bx.c
      obtain ⟨z0, z1, z2, z3, z4⟩ := Zu4.out
      go_wp2_with fail
      go_meet
      case rel => exact ⟨by rw [HE.out]; rfl, Tu4.out, Hu4.out, Zu4.out⟩
  case rest =>
  obtain ⟨e13, tt, hh, zz⟩ := hcut
  subst e13
  have T11 := Lib.hid tt
  have H11 := Lib.hid hh
  clear T10 H10 Z10
  generalize wc = w11 at *
  obtain ⟨z0, z1, z2, z3, z4⟩ := zz
  obtain ⟨c0, c1, c2, c3, c4, c5, c6, c7, c8⟩ := T11.out.bx.c
  go_wp2_with fail
  refine (XIZ.out _).mono ?_
  rintro e w12 ⟨rfl, k12⟩
  have T12 := Lib.hid (T11.out.no k12)
  have H12 := Lib.hid (H11.out.no k12).rebase
  clear k12 z0 z1 z2 z3 z4 c0 c1 c2 c3 c4 c5 c6 c7 c8 T11 H11 XIZ
  obtain ⟨c0, c1, c2, c3, c4⟩ := T12.out.pa
  obtain ⟨d0, d1, d2, d3, d4⟩ := T12.out.pb
  have VAL := Lib.hid (ValidQ H12.out.rep H12.out.qk (.head _))
  have PRD := Lib.hid (PR.out _ T12.out.gl)
  cases rr
  all_goals
    go_wp2_with fail
    refine VAL.out.mono ?_
    rintro e wv ⟨rfl, rfl⟩
    go_wp2_with fail
    refine PRD.out.mono ?_
    rintro e wa ⟨ga, rfl, row, ka⟩
    have EVQ := Lib.hid (EvalQ (H12.out.rep.no ka) H12.out.qk (.head _) (bools_row row))
    rw [ENT.out] at EVQ
    have KA := Lib.hid (T12.out.kp.trans_no ka)
    clear ka row c0 c1 c2 c3 c4 d0 d1 d2 d3 d4
    go_wp2_with fail
    refine EVQ.out.mono ?_
    rintro e wb ⟨rfl, kb⟩
    have KB := Lib.hid (KA.out.trans_no kb)
    clear kb
    go_wp2_with fail
    go_ret
    exact ⟨by simp, KB.out⟩

end Go.Proofs.YtgglkldoclejaaaDoor
