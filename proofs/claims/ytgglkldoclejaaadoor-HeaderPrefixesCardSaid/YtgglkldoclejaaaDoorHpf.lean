/-
  Walks: the law HeaderPrefixes.
-/
import Derived.Test.YtgglkldoclejaaaDoorHpm
import Derived.Test.YtgglkldoclejaaaDoorHwl
import Derived.Deep.RegionHeld3
namespace Go.Proofs.YtgglkldoclejaaaDoor
open Go.RowKit

/-- A prefix and two packets in memory behind the law's arguments. -/
structure TwoP (w : World) (ad : Nat) (ln : Int) (p q : Pkt) (x : World) : Prop where
  t : Two2 w (w.heap.size + 1) (w.heap.size + 2) p q x
  bx : x.heap[w.heap.size]? = some (.cells #[.int .u32 (ad : Int), .int .i64 ln] 57 (0, 0))
section
variable {w : World} {ad : Nat} {ln : Int} {p q : Pkt} {x y : World}
theorem TwoP.gl (t : TwoP w ad ln p q x) : Gl x := t.t.gl
theorem TwoP.kp (t : TwoP w ad ln p q x) : Kp No w x := t.t.kp
theorem TwoP.pa (t : TwoP w ad ln p q x) : PkAt x (w.heap.size + 1) p := t.t.pa
theorem TwoP.pb (t : TwoP w ad ln p q x) : PkAt x (w.heap.size + 2) q := t.t.pb
theorem TwoP.no (t : TwoP w ad ln p q x) (k : Kp No x y) : TwoP w ad ln p q y := ⟨t.t.no k, by rw [k.block _ (heap_lt t.bx) (fun h => h)]; exact t.bx⟩
theorem TwoP.mgr {A : Nat → Prop} {N : Nat} (t : TwoP w ad ln p q x) (k : Kp A x y) (hA : ∀ b, A b → N ≤ b) (h1 : w.heap.size + 2 < N) : TwoP w ad ln p q y :=
  ⟨t.t.mgr k hA (by omega) (by omega) (by omega), by rw [k.block _ (heap_lt t.bx) (fun h => by have := hA _ h; omega)]; exact t.bx⟩
theorem TwoP.c (t : TwoP w ad ln p q x) : x.cell? ⟨w.heap.size, 0, none⟩ = some (.int .u32 (ad : Int)) ∧ x.cell? ⟨w.heap.size, 1, none⟩ = some (.int .i64 ln) :=
  ⟨by rw [cell_of_row _ _ _ _ _ _ t.bx]; rfl, by rw [cell_of_row _ _ _ _ _ _ t.bx]; rfl⟩
theorem TwoP.new (g : Gl w) (ad : Nat) (ln : Int) (p q : Pkt) : TwoP w ad ln p q (((w.alloc (.cells #[.int .u32 (ad : Int), .int .i64 ln] 57)).alloc (.cells #[.int .u32 (p.src : Int), .int .u32 (p.dst : Int), .int .i64 p.proto, .int .i64 p.sport, .int .i64 p.dport] 29)).alloc (.cells #[.int .u32 (q.src : Int), .int .u32 (q.dst : Int), .int .i64 q.proto, .int .i64 q.sport, .int .i64 q.dport] 29)) := by
  have k1 : Kp No w (w.alloc (.cells #[.int .u32 (ad : Int), .int .i64 ln] 57)) := Kp.alloc _
  have hb := heap_alloc_new w (.cells #[.int .u32 (ad : Int), .int .i64 ln] 57)
  have h2 := Two2.new2 (g.no k1) p q
  have hs : (w.alloc (.cells #[.int .u32 (ad : Int), .int .i64 ln] 57)).heap.size = w.heap.size + 1 := by simp
  refine ⟨⟨k1.trans_no h2.kp, h2.gl, ?_, ?_, g⟩, ?_⟩
  · have := h2.pa; rw [hs] at this; exact this
  · have := h2.pb; rw [hs] at this; exact this
  · rw [h2.kp.block _ (heap_lt hb) (fun h => h)]; exact hb
end

set_option maxRecDepth 100000 in
set_option maxHeartbeats 2000000 in
theorem Prefix_nofield (x : Int) (hx : ¬ (x = 0 ∨ x = 1)) (p : Nat) (nx : Bool) (ad : Nat) (ln : Int) (hv : pvB ad ln = true) (w : World) : Calls Tryd.prog 37 #[ptr p, .int .i64 x, .bool nx, .agg #[.int .u32 (ad : Int), .int .i64 ln]] w fun e w' => e = .returned (.int .i64 (-1)) ∧ Kp No w w' := by
  have MK := Lib.hid (fun (y : World) => Mask_ok ln y)
  have VD := Lib.hid (fun (y : World) => Valid_ok ad ln y)
  rw [hv] at VD
  have KA := Lib.hid (Kp.alloc (w := w) (.cells #[.int .u32 (ad : Int), .int .i64 ln] 57))
  have BX : Hid ((w.alloc (.cells #[.int .u32 (ad : Int), .int .i64 ln] 57)).heap[w.heap.size]? = some (.cells #[.int .u32 (ad : Int), .int .i64 ln] 57 (0, 0))) := Lib.hid (heap_alloc_new _ _)
  have CK : Hid (∀ y, Kp No (w.alloc (.cells #[.int .u32 (ad : Int), .int .i64 ln] 57)) y → y.cell? ⟨w.heap.size, 0, none⟩ = some (.int .u32 (ad : Int)) ∧ y.cell? ⟨w.heap.size, 1, none⟩ = some (.int .i64 ln)) := Lib.hid (fun y k => by
    have bx := BX.out
    rw [← k.block _ (heap_lt bx) (fun x => x)] at bx
    exact ⟨by rw [cell_of_row _ _ _ _ _ _ bx]; rfl, by rw [cell_of_row _ _ _ _ _ _ bx]; rfl⟩)
  generalize mkN (clI ln) = m at *
  have WL := Lib.hid (fun (y : World) => Wild_bad x hx p nx (ad : Int) (bits BinOp.xor IntKind.u32 (if IntKind.u32.signed = true then -1 else IntKind.u32.max) (m : Int)) y)
  clear hv hx
  go_enter Tryd.func37, Tryd.ntmps37
  go_wp2_with fail
  refine (VD.out _).mono ?_
  rintro e w1 ⟨rfl, k1⟩
  have KD := Lib.hid (k1.trans_no (Kp.drew (w := w1)))
  have S0 := Lib.hid (CK.out _ KD.out)
  clear k1
  go_upto_region 3 with (fail)
  go_region_held3 (fun y => y.cell? ⟨w.heap.size, 0, none⟩ = some (.int .u32 (ad : Int)) ∧ y.cell? ⟨w.heap.size, 1, none⟩ = some (.int .i64 ln)) (first | exact S0.out | exact SB.out)
    (first | (go_at_call 67; (with_reducible refine (MK.out _).mono ?_); rintro e wm ⟨rfl, rfl⟩) | (go_at_call 35; (with_reducible refine (WL.out _).mono ?_); rintro e wb ⟨rfl, kb⟩; have KB := Lib.hid (KD.out.trans_no kb); have SB := Lib.hid (CK.out _ KB.out); clear kb))
  all_goals
    go_wp2_with fail
    go_ret
    exact ⟨rfl, KA.out.trans_no KB.out⟩

set_option maxRecDepth 100000 in
set_option maxHeartbeats 8000000 in
theorem HeaderPrefixes_walk (x : Int) (nx : Bool) (ad : Nat) (ln : Int) (p q : Pkt) (had : ad < 4294967296) (hp : p.in32) (hq : q.in32) {w : World} (g : Gl w) :
    Calls Tryd.prog 9 #[.int .i64 x, .bool nx, .agg #[.int .u32 (ad : Int), .int .i64 ln], pktV p, pktV q] w fun e w' => e = .returned (.bool true) ∧ Kp No w w' := by
  have T0 := Lib.hid (TwoP.new g ad ln p q)
  clear g
  have AW := Lib.hid (fun (y : World) (h : Gl y) => hawake_ok h)
  have VP := Lib.hid (fun (y : World) => ValidPacket_ok p y)
  have VQ := Lib.hid (fun (y : World) => ValidPacket_ok q y)
  cases hvp : vpB p
  · rw [hvp] at VP
    clear hvp
    unfold pktV at VP VQ ⊢
    go_enter Tryd.func9, Tryd.ntmps9
    go_wp2_with fail
    refine (AW.out _ T0.out.gl).mono ?_
    rintro e w1 ⟨rfl, k1⟩
    have T1 := Lib.hid (T0.out.no k1)
    clear k1 T0
    obtain ⟨c0, c1, c2, c3, c4⟩ := T1.out.pa
    go_wp2_with fail
    refine (VP.out _).mono ?_
    rintro e w2 ⟨rfl, k2⟩
    have T2 := Lib.hid (T1.out.no k2)
    clear k2 T1 c0 c1 c2 c3 c4
    go_wp2_with fail
    go_ret
    exact ⟨rfl, T2.out.kp⟩
  rw [hvp] at VP
  have hpo := vpB_true hp hvp
  cases hvq : vpB q
  · rw [hvq] at VQ
    clear hvq hvp hpo
    unfold pktV at VP VQ ⊢
    go_enter Tryd.func9, Tryd.ntmps9
    go_wp2_with fail
    refine (AW.out _ T0.out.gl).mono ?_
    rintro e w1 ⟨rfl, k1⟩
    have T1 := Lib.hid (T0.out.no k1)
    clear k1 T0
    obtain ⟨c0, c1, c2, c3, c4⟩ := T1.out.pa
    go_wp2_with fail
    refine (VP.out _).mono ?_
    rintro e w2 ⟨rfl, k2⟩
    have T2 := Lib.hid (T1.out.no k2)
    clear k2 T1 c0 c1 c2 c3 c4
    obtain ⟨d0, d1, d2, d3, d4⟩ := T2.out.pb
    go_wp2_with fail
    refine (VQ.out _).mono ?_
    rintro e w3 ⟨rfl, k3⟩
    have T3 := Lib.hid (T2.out.no k3)
    clear k3 T2 d0 d1 d2 d3 d4
    go_wp2_with fail
    go_ret
    exact ⟨rfl, T3.out.kp⟩
  rw [hvq] at VQ
  have hqo := vpB_true hq hvq
  have NEW := Lib.hid (fun (y : World) => HNew_ok y)
  clear hvp hvq
  have VD := Lib.hid (fun (y : World) => Valid_ok ad ln y)
  cases hvd : pvB ad ln
  · have PB := Lib.hid (fun (pm : Nat) (y : World) => Prefix_bad x pm nx ad ln hvd y)
    rw [hvd] at VD
    clear hvd
    unfold pktV at VP VQ ⊢
    by_cases hx : x = 0 ∨ x = 1
    · rcases hx with rfl | rfl
      all_goals
        go_enter Tryd.func9, Tryd.ntmps9
        go_wp2_with fail
        refine (AW.out _ T0.out.gl).mono ?_
        rintro e w1 ⟨rfl, k1⟩
        have T1 := Lib.hid (T0.out.no k1)
        clear k1 T0
        obtain ⟨c0, c1, c2, c3, c4⟩ := T1.out.pa
        go_wp2_with fail
        refine (VP.out _).mono ?_
        rintro e w2 ⟨rfl, k2⟩
        have T2 := Lib.hid (T1.out.no k2)
        clear k2 T1 c0 c1 c2 c3 c4
        obtain ⟨d0, d1, d2, d3, d4⟩ := T2.out.pb
        go_wp2_with fail
        refine (VQ.out _).mono ?_
        rintro e w3 ⟨rfl, k3⟩
        have T3 := Lib.hid (T2.out.no k3)
        clear k3 T2 d0 d1 d2 d3 d4
        go_wp2_with fail
        refine (NEW.out _).mono ?_
        rintro e w4 ⟨pm, L4, rfl, R4, k4, o4⟩
        have T4 := Lib.hid (T3.out.no k4)
        have H4 := Lib.hid (hf_new T3.out.gl (Kp.refl No w3) R4 k4 o4)
        have O4 : Hid (∀ x, L4.at pm x → w.heap.size ≤ x) := Lib.hid (fun x hx => by have := o4 x hx; have := T3.out.kp.size; omega)
        have B4 : Hid (∀ x, L4.at pm x → w3.heap.size ≤ x) := Lib.hid o4
        clear R4 k4 o4 NEW
        obtain ⟨c0, c1⟩ := T4.out.c
        go_wp2_with fail
        refine (PB.out _ _).mono ?_
        rintro e w6 ⟨rfl, k6⟩
        have T6 := Lib.hid (T4.out.no k6)
        obtain ⟨d0, d1⟩ := T6.out.c
        clear k6 c0 c1
        go_wp2_with fail
        refine (VD.out _).mono ?_
        rintro e w7 ⟨rfl, k7⟩
        have T7 := Lib.hid (T6.out.no k7)
        clear k7 d0 d1
        go_wp2_with fail
        go_ret
        exact ⟨rfl, T7.out.kp⟩
    · have h0' : (x != 0) = true := by simp; omega
      have h1' : (x != 1) = true := by simp; omega
      clear hx
      go_enter Tryd.func9, Tryd.ntmps9
      go_wp2_with fail
      refine (AW.out _ T0.out.gl).mono ?_
      rintro e w1 ⟨rfl, k1⟩
      have T1 := Lib.hid (T0.out.no k1)
      clear k1 T0
      obtain ⟨c0, c1, c2, c3, c4⟩ := T1.out.pa
      go_wp2_with fail
      refine (VP.out _).mono ?_
      rintro e w2 ⟨rfl, k2⟩
      have T2 := Lib.hid (T1.out.no k2)
      clear k2 T1 c0 c1 c2 c3 c4
      obtain ⟨d0, d1, d2, d3, d4⟩ := T2.out.pb
      go_wp2_with fail
      refine (VQ.out _).mono ?_
      rintro e w3 ⟨rfl, k3⟩
      have T3 := Lib.hid (T2.out.no k3)
      clear k3 T2 d0 d1 d2 d3 d4
      go_wp2_with fail
      refine (NEW.out _).mono ?_
      rintro e w4 ⟨pm, L4, rfl, R4, k4, o4⟩
      have T4 := Lib.hid (T3.out.no k4)
      have H4 := Lib.hid (hf_new T3.out.gl (Kp.refl No w3) R4 k4 o4)
      have O4 : Hid (∀ x, L4.at pm x → w.heap.size ≤ x) := Lib.hid (fun x hx => by have := o4 x hx; have := T3.out.kp.size; omega)
      have B4 : Hid (∀ x, L4.at pm x → w3.heap.size ≤ x) := Lib.hid o4
      clear R4 k4 o4 NEW
      obtain ⟨c0, c1⟩ := T4.out.c
      go_wp2_with fail
      refine (PB.out _ _).mono ?_
      rintro e w6 ⟨rfl, k6⟩
      have T6 := Lib.hid (T4.out.no k6)
      obtain ⟨d0, d1⟩ := T6.out.c
      clear k6 c0 c1
      go_wp2_with fail
      go_ret
      exact ⟨rfl, T6.out.kp⟩
  rw [hvd] at VD
  by_cases hx : x = 0 ∨ x = 1
  case neg =>
    have PB := Lib.hid (fun (pm : Nat) (y : World) => Prefix_nofield x hx pm nx ad ln hvd y)
    have h0' : (x != 0) = true := by simp; omega
    have h1' : (x != 1) = true := by simp; omega
    clear hx hvd
    unfold pktV at VP VQ ⊢
    go_enter Tryd.func9, Tryd.ntmps9
    go_wp2_with fail
    refine (AW.out _ T0.out.gl).mono ?_
    rintro e w1 ⟨rfl, k1⟩
    have T1 := Lib.hid (T0.out.no k1)
    clear k1 T0
    obtain ⟨c0, c1, c2, c3, c4⟩ := T1.out.pa
    go_wp2_with fail
    refine (VP.out _).mono ?_
    rintro e w2 ⟨rfl, k2⟩
    have T2 := Lib.hid (T1.out.no k2)
    clear k2 T1 c0 c1 c2 c3 c4
    obtain ⟨d0, d1, d2, d3, d4⟩ := T2.out.pb
    go_wp2_with fail
    refine (VQ.out _).mono ?_
    rintro e w3 ⟨rfl, k3⟩
    have T3 := Lib.hid (T2.out.no k3)
    clear k3 T2 d0 d1 d2 d3 d4
    go_wp2_with fail
    refine (NEW.out _).mono ?_
    rintro e w4 ⟨pm, L4, rfl, R4, k4, o4⟩
    have T4 := Lib.hid (T3.out.no k4)
    have H4 := Lib.hid (hf_new T3.out.gl (Kp.refl No w3) R4 k4 o4)
    have O4 : Hid (∀ x, L4.at pm x → w.heap.size ≤ x) := Lib.hid (fun x hx => by have := o4 x hx; have := T3.out.kp.size; omega)
    have B4 : Hid (∀ x, L4.at pm x → w3.heap.size ≤ x) := Lib.hid o4
    clear R4 k4 o4 NEW
    obtain ⟨c0, c1⟩ := T4.out.c
    go_wp2_with fail
    refine (PB.out _ _).mono ?_
    rintro e w6 ⟨rfl, k6⟩
    have T6 := Lib.hid (T4.out.no k6)
    obtain ⟨d0, d1⟩ := T6.out.c
    clear k6 c0 c1
    go_wp2_with fail
    go_ret
    exact ⟨rfl, T6.out.kp⟩
  obtain ⟨k, rfl⟩ : ∃ k : Nat, x = (k : Int) := ⟨x.toNat, by omega⟩
  have hk : k < 2 := by omega
  have hk5 : k < 5 := by omega
  have hf32 : fw k = 32 := by rcases (show k = 0 ∨ k = 1 by omega) with rfl | rfl <;> rfl
  have FP := Lib.hid (fun (y : World) => Field_ok p k hk5 y)
  have FQ := Lib.hid (fun (y : World) => Field_ok q k hk5 y)
  have PR := Lib.hid (fun (y : World) (h : Gl y) => pair_ok p q hp hq h)
  have hc32 := clI_le ln
  have hcl : (clI ln : Int) = ln := clI_in (pv_bits hvd).1.1 (pv_bits hvd).1.2
  have SZE := Lib.hid (fun (c : Nat) (B : List (Int × Bfn)) (r : Int) (M : Mgr) (nx : Bool) (qq : Qk 220 c M B) (h : (r, wiF k nx ad (ntN (mkN (clI ln))) (fw k)) ∈ B) => wild_size hk5 qq h)
  rw [hf32, cz_mk hc32 32 (by omega), show 32 - (32 - clI ln) = clI ln by omega] at SZE
  have PX := Lib.hid (fun (c : Nat) (M : Mgr) (L : Lay) (B : List (Int × Bfn)) (y : World) (pm : Nat) (h : Hf y pm L 220 c y M L B) (hc : c ≤ 500000000000) => Prefix_ok k hk nx ad ln had hvd h.rep h.qk h.gl h.off hc)
  have RG := Lib.hid (fun (c : Nat) (M : Mgr) (L : Lay) (B : List (Int × Bfn)) (y : World) (pm : Nat) (h : Hf y pm L 220 c y M L B) (hc : c ≤ 500000000000) => Range_ok k hk5 nx ad (lsN ad ln) had (lsN_lt had ln) h.rep h.qk h.gl h.off hc)
  have FEQ := Lib.hid (fun (a : Nat → Bool) => pfx_range (nx := nx) hk had hvd a)
  have LS := Lib.hid (fun (y : World) => Last_ok ad ln had y)
  obtain ⟨z, hz⟩ : ∃ z, (if nx then q else p).f k = z := ⟨_, rfl⟩
  have hz32 : z < 4294967296 := by rw [← hz]; cases nx <;> simp [hp.f hk5, hq.f hk5]
  have CT := Lib.hid (fun (y : World) => Contains_ok ad ln z hz32 y)
  have EV : Hid (wiF k nx ad (ntN (mkN (clI ln))) (fw k) (asg (gL (encF (fun _ => false) p q))) = ctB ad ln z) := Lib.hid (by
    rw [Bool.eq_iff_iff, wild_enc (fun _ => false) p q hk5 nx ad _, hz, hf32, ct_iff had hvd hz32])
  rw [hf32] at EV
  have HCL := Lib.hid hcl
  generalize ctB ad ln z = bb at *
  generalize lsN ad ln = ls at *
  generalize ntN (mkN (clI ln)) = nm at *
  have HK := Lib.hid hk
  unfold pktV at VP VQ FP FQ PR ⊢
  clear hx hk hk5 hf32 hvd hcl
  rcases (show k = 0 ∨ k = 1 by have := HK.out; omega) with rfl | rfl
  all_goals
    cases nx
    · simp only [Bool.false_eq_true, if_false] at hz
      rw [hz] at FP
      clear hz
      go_enter Tryd.func9, Tryd.ntmps9
      go_wp2_with fail
      refine (AW.out _ T0.out.gl).mono ?_
      rintro e w1 ⟨rfl, k1⟩
      have T1 := Lib.hid (T0.out.no k1)
      clear k1 T0
      obtain ⟨c0, c1, c2, c3, c4⟩ := T1.out.pa
      go_wp2_with fail
      refine (VP.out _).mono ?_
      rintro e w2 ⟨rfl, k2⟩
      have T2 := Lib.hid (T1.out.no k2)
      clear k2 T1 c0 c1 c2 c3 c4
      obtain ⟨d0, d1, d2, d3, d4⟩ := T2.out.pb
      go_wp2_with fail
      refine (VQ.out _).mono ?_
      rintro e w3 ⟨rfl, k3⟩
      have T3 := Lib.hid (T2.out.no k3)
      clear k3 T2 d0 d1 d2 d3 d4
      go_wp2_with fail
      refine (NEW.out _).mono ?_
      rintro e w4 ⟨pm, L4, rfl, R4, k4, o4⟩
      have T4 := Lib.hid (T3.out.no k4)
      have H4 := Lib.hid (hf_new T3.out.gl (Kp.refl No w3) R4 k4 o4)
      have O4 : Hid (∀ x, L4.at pm x → w.heap.size ≤ x) := Lib.hid (fun x hx => by have := o4 x hx; have := T3.out.kp.size; omega)
      have B4 : Hid (∀ x, L4.at pm x → w3.heap.size ≤ x) := Lib.hid o4
      clear R4 k4 o4 NEW
      obtain ⟨c0, c1⟩ := T4.out.c
      go_wp2_with fail
      refine Calls.mono (PX.out _ _ _ _ _ _ H4.out (by omega)) ?_
      intro e w5 h5
      obtain ⟨r, M5, L5, rfl, hr, f5⟩ := H4.out.step h5
      have B4' : Hid (∀ b, L4.at pm b → w.heap.size + 3 ≤ b) := Lib.hid (fun b hb => by have := B4.out b hb; have := T3.out.pb.lt; omega)
      have T5 := Lib.hid (T4.out.mgr f5.sd.kp B4'.out (by omega))
      have H5 := Lib.hid f5.rebase
      have B5 : Hid (∀ b, L5.at pm b → w.heap.size + 3 ≤ b) := Lib.hid (fun b hb => by
        rcases f5.sd.fr b hb with h1 | h1
        · exact B4'.out b h1
        · have := T4.out.pb.lt; omega)
      clear h5 f5 c0 c1 T4 H4
      obtain ⟨d0, d1⟩ := T5.out.c
      go_wp2_with fail
      refine (VD.out _).mono ?_
      rintro e w6 ⟨rfl, k6⟩
      have T6 := Lib.hid (T5.out.no k6)
      have H6 := Lib.hid (H5.out.no k6).rebase
      clear k6 d0 d1 T5 H5
      obtain ⟨c0, c1, c2, c3, c4⟩ := T6.out.pa
      go_wp2_with fail
      refine (FP.out _).mono ?_
      rintro e w7 ⟨rfl, k7⟩
      have T7 := Lib.hid (T6.out.no k7)
      have H7 := Lib.hid (H6.out.no k7).rebase
      clear k7 c0 c1 c2 c3 c4 T6 H6
      have TD := Lib.hid (T7.out.no Kp.drew)
      have HD := Lib.hid (H7.out.no Kp.drew).rebase
      have VAL := Lib.hid (ValidQ HD.out.rep HD.out.qk (.head _))
      have PRD := Lib.hid (PR.out _ TD.out.gl)
      have CK : Hid (∀ y, TwoP w ad ln p q y → y.cell? ⟨w.heap.size, 0, none⟩ = some (.int .u32 (ad : Int)) ∧ y.cell? ⟨w.heap.size, 1, none⟩ = some (.int .i64 ln) ∧ y.cell? ⟨w.heap.size + 1, 0, none⟩ = some (.int .u32 (p.src : Int)) ∧ y.cell? ⟨w.heap.size + 1, 1, none⟩ = some (.int .u32 (p.dst : Int)) ∧ y.cell? ⟨w.heap.size + 1, 2, none⟩ = some (.int .i64 p.proto) ∧ y.cell? ⟨w.heap.size + 1, 3, none⟩ = some (.int .i64 p.sport) ∧ y.cell? ⟨w.heap.size + 1, 4, none⟩ = some (.int .i64 p.dport) ∧ y.cell? ⟨w.heap.size + 2, 0, none⟩ = some (.int .u32 (q.src : Int)) ∧ y.cell? ⟨w.heap.size + 2, 1, none⟩ = some (.int .u32 (q.dst : Int)) ∧ y.cell? ⟨w.heap.size + 2, 2, none⟩ = some (.int .i64 q.proto) ∧ y.cell? ⟨w.heap.size + 2, 3, none⟩ = some (.int .i64 q.sport) ∧ y.cell? ⟨w.heap.size + 2, 4, none⟩ = some (.int .i64 q.dport)) := Lib.hid (fun y t => ⟨t.c.1, t.c.2, t.pa.c0, t.pa.c1, t.pa.c2, t.pa.c3, t.pa.c4, t.pb.c0, t.pb.c1, t.pb.c2, t.pb.c3, t.pb.c4⟩)
      have S0 := Lib.hid (CK.out _ TD.out)
      have EVQ : Hid (∀ (y : World) (ga : Nat) (b : Nat), Kp No w7.drew y → y.ownsRow b 4 1 (.slice (some ⟨ga, 0, none⟩) 220 220) 220 (boolRow (encF (fun _ => false) p q)) → Calls Tryd.prog 32 #[ptr pm, .int .i64 r, .slice (some ⟨ga, 0, none⟩) 220 220] y fun e w' => e = .returned (.bool bb) ∧ Kp No y w') := Lib.hid (fun y ga b k row => by
        have := EvalQ (HD.out.rep.no k) HD.out.qk (.head _) (bools_row row)
        rw [EV.out] at this
        exact this)
      have SZ : Hid (∀ y, Kp No w7.drew y → Calls Tryd.prog 36 #[ptr pm, .int .i64 r] y fun e w' => e = .returned (.int .i64 ln) ∧ Kp No y w') := Lib.hid (fun y k => by
        have := Size_ok r (HD.out.rep.no k)
        rw [show M5.sizeM r = clI ln from SZE.out _ _ _ _ _ HD.out.qk (.head _), HCL.out] at this
        exact this)
      have RGD : Hid (∀ y, Kp No w7.drew y → Calls Tryd.prog 30 #[ptr pm, .int .i64 _, .bool false, .int .u32 (ad : Int), .int .u32 (ls : Int)] y fun e w' => e = .returned (.int .i64 r) ∧ TwoP w ad ln p q w') := Lib.hid (fun y k => by
        have HY := (HD.out.no k).rebase
        refine (RG.out _ _ _ _ _ _ HY (by omega)).mono ?_
        intro e wz hz
        obtain ⟨r2, M2, L2, rfl, _, f2⟩ := HY.step hz
        have e2 : r2 = r := f2.qk.eq (.head _) (.tail _ (.head _)) (fun a => (FEQ.out a).symm)
        exact ⟨by rw [e2], (TD.out.no k).mgr f2.sd.kp B5.out (by omega)⟩)
      clear EV SZE RG FEQ PX HCL
      cases bb
      all_goals
        go_upto_region 12 with (fail)
        go_region_held3 (fun y => y.cell? ⟨w.heap.size, 0, none⟩ = some (.int .u32 (ad : Int)) ∧ y.cell? ⟨w.heap.size, 1, none⟩ = some (.int .i64 ln) ∧ y.cell? ⟨w.heap.size + 1, 0, none⟩ = some (.int .u32 (p.src : Int)) ∧ y.cell? ⟨w.heap.size + 1, 1, none⟩ = some (.int .u32 (p.dst : Int)) ∧ y.cell? ⟨w.heap.size + 1, 2, none⟩ = some (.int .i64 p.proto) ∧ y.cell? ⟨w.heap.size + 1, 3, none⟩ = some (.int .i64 p.sport) ∧ y.cell? ⟨w.heap.size + 1, 4, none⟩ = some (.int .i64 p.dport) ∧ y.cell? ⟨w.heap.size + 2, 0, none⟩ = some (.int .u32 (q.src : Int)) ∧ y.cell? ⟨w.heap.size + 2, 1, none⟩ = some (.int .u32 (q.dst : Int)) ∧ y.cell? ⟨w.heap.size + 2, 2, none⟩ = some (.int .i64 q.proto) ∧ y.cell? ⟨w.heap.size + 2, 3, none⟩ = some (.int .i64 q.sport) ∧ y.cell? ⟨w.heap.size + 2, 4, none⟩ = some (.int .i64 q.dport)) (first | exact S0.out | exact SA.out | exact SB.out | exact SC.out | exact SD.out | exact SE.out | exact SF.out)
          (first | (go_at_call 31; (with_reducible refine VAL.out.mono ?_); rintro e wv ⟨rfl, rfl⟩) | (go_at_call 33; (with_reducible refine PRD.out.mono ?_); rintro e wa ⟨ga, rfl, row, ka⟩; have KA := Lib.hid ka; have SA := Lib.hid (CK.out _ (TD.out.no ka)); have CA := Lib.hid (EVQ.out _ _ _ ka row); clear ka row) | (go_at_call 32; (with_reducible refine CA.out.mono ?_); rintro e wb ⟨rfl, kb⟩; have KB := Lib.hid (KA.out.trans_no kb); have SB := Lib.hid (CK.out _ (TD.out.no KB.out)); have CB := Lib.hid (CT.out wb); clear kb) | (go_at_call 39; (with_reducible refine CB.out.mono ?_); rintro e wc ⟨rfl, kc⟩; have KC := Lib.hid (KB.out.trans_no kc); have SC := Lib.hid (CK.out _ (TD.out.no KC.out)); have CC := Lib.hid (SZ.out _ KC.out); clear kc) | (go_at_call 36; (with_reducible refine CC.out.mono ?_); rintro e wd ⟨rfl, kd⟩; have KD := Lib.hid (KC.out.trans_no kd); have SD := Lib.hid (CK.out _ (TD.out.no KD.out)); have CD := Lib.hid (LS.out wd); clear kd) | (go_at_call 40; (with_reducible refine CD.out.mono ?_); rintro e we ⟨rfl, ke⟩; have KE := Lib.hid (KD.out.trans_no ke); have SE := Lib.hid (CK.out _ (TD.out.no KE.out)); have CE := Lib.hid (RGD.out _ KE.out); clear ke) | (go_at_call 30; refine CE.out.mono ?_; rintro e wf ⟨rfl, tf⟩; have TF := Lib.hid tf; have SF := Lib.hid (CK.out _ tf); clear tf))
        all_goals
          go_wp2_with fail
          go_ret
          exact ⟨by simp, TF.out.kp⟩
    · simp only [if_true] at hz
      rw [hz] at FQ
      clear hz
      go_enter Tryd.func9, Tryd.ntmps9
      go_wp2_with fail
      refine (AW.out _ T0.out.gl).mono ?_
      rintro e w1 ⟨rfl, k1⟩
      have T1 := Lib.hid (T0.out.no k1)
      clear k1 T0
      obtain ⟨c0, c1, c2, c3, c4⟩ := T1.out.pa
      go_wp2_with fail
      refine (VP.out _).mono ?_
      rintro e w2 ⟨rfl, k2⟩
      have T2 := Lib.hid (T1.out.no k2)
      clear k2 T1 c0 c1 c2 c3 c4
      obtain ⟨d0, d1, d2, d3, d4⟩ := T2.out.pb
      go_wp2_with fail
      refine (VQ.out _).mono ?_
      rintro e w3 ⟨rfl, k3⟩
      have T3 := Lib.hid (T2.out.no k3)
      clear k3 T2 d0 d1 d2 d3 d4
      go_wp2_with fail
      refine (NEW.out _).mono ?_
      rintro e w4 ⟨pm, L4, rfl, R4, k4, o4⟩
      have T4 := Lib.hid (T3.out.no k4)
      have H4 := Lib.hid (hf_new T3.out.gl (Kp.refl No w3) R4 k4 o4)
      have O4 : Hid (∀ x, L4.at pm x → w.heap.size ≤ x) := Lib.hid (fun x hx => by have := o4 x hx; have := T3.out.kp.size; omega)
      have B4 : Hid (∀ x, L4.at pm x → w3.heap.size ≤ x) := Lib.hid o4
      clear R4 k4 o4 NEW
      obtain ⟨c0, c1⟩ := T4.out.c
      go_wp2_with fail
      refine Calls.mono (PX.out _ _ _ _ _ _ H4.out (by omega)) ?_
      intro e w5 h5
      obtain ⟨r, M5, L5, rfl, hr, f5⟩ := H4.out.step h5
      have B4' : Hid (∀ b, L4.at pm b → w.heap.size + 3 ≤ b) := Lib.hid (fun b hb => by have := B4.out b hb; have := T3.out.pb.lt; omega)
      have T5 := Lib.hid (T4.out.mgr f5.sd.kp B4'.out (by omega))
      have H5 := Lib.hid f5.rebase
      have B5 : Hid (∀ b, L5.at pm b → w.heap.size + 3 ≤ b) := Lib.hid (fun b hb => by
        rcases f5.sd.fr b hb with h1 | h1
        · exact B4'.out b h1
        · have := T4.out.pb.lt; omega)
      clear h5 f5 c0 c1 T4 H4
      obtain ⟨d0, d1⟩ := T5.out.c
      go_wp2_with fail
      refine (VD.out _).mono ?_
      rintro e w6 ⟨rfl, k6⟩
      have T6 := Lib.hid (T5.out.no k6)
      have H6 := Lib.hid (H5.out.no k6).rebase
      clear k6 d0 d1 T5 H5
      obtain ⟨c0, c1, c2, c3, c4⟩ := T6.out.pa
      go_wp2_with fail
      refine (FP.out _).mono ?_
      rintro e w7 ⟨rfl, k7⟩
      have T7 := Lib.hid (T6.out.no k7)
      have H7 := Lib.hid (H6.out.no k7).rebase
      clear k7 c0 c1 c2 c3 c4 T6 H6
      obtain ⟨d0, d1, d2, d3, d4⟩ := T7.out.pb
      go_wp2_with fail
      refine (FQ.out _).mono ?_
      rintro e w7 ⟨rfl, k7⟩
      have T7 := Lib.hid (T7.out.no k7)
      have H7 := Lib.hid (H7.out.no k7).rebase
      clear k7 d0 d1 d2 d3 d4
      have TD := Lib.hid (T7.out.no Kp.drew)
      have HD := Lib.hid (H7.out.no Kp.drew).rebase
      have VAL := Lib.hid (ValidQ HD.out.rep HD.out.qk (.head _))
      have PRD := Lib.hid (PR.out _ TD.out.gl)
      have CK : Hid (∀ y, TwoP w ad ln p q y → y.cell? ⟨w.heap.size, 0, none⟩ = some (.int .u32 (ad : Int)) ∧ y.cell? ⟨w.heap.size, 1, none⟩ = some (.int .i64 ln) ∧ y.cell? ⟨w.heap.size + 1, 0, none⟩ = some (.int .u32 (p.src : Int)) ∧ y.cell? ⟨w.heap.size + 1, 1, none⟩ = some (.int .u32 (p.dst : Int)) ∧ y.cell? ⟨w.heap.size + 1, 2, none⟩ = some (.int .i64 p.proto) ∧ y.cell? ⟨w.heap.size + 1, 3, none⟩ = some (.int .i64 p.sport) ∧ y.cell? ⟨w.heap.size + 1, 4, none⟩ = some (.int .i64 p.dport) ∧ y.cell? ⟨w.heap.size + 2, 0, none⟩ = some (.int .u32 (q.src : Int)) ∧ y.cell? ⟨w.heap.size + 2, 1, none⟩ = some (.int .u32 (q.dst : Int)) ∧ y.cell? ⟨w.heap.size + 2, 2, none⟩ = some (.int .i64 q.proto) ∧ y.cell? ⟨w.heap.size + 2, 3, none⟩ = some (.int .i64 q.sport) ∧ y.cell? ⟨w.heap.size + 2, 4, none⟩ = some (.int .i64 q.dport)) := Lib.hid (fun y t => ⟨t.c.1, t.c.2, t.pa.c0, t.pa.c1, t.pa.c2, t.pa.c3, t.pa.c4, t.pb.c0, t.pb.c1, t.pb.c2, t.pb.c3, t.pb.c4⟩)
      have S0 := Lib.hid (CK.out _ TD.out)
      have EVQ : Hid (∀ (y : World) (ga : Nat) (b : Nat), Kp No w7.drew y → y.ownsRow b 4 1 (.slice (some ⟨ga, 0, none⟩) 220 220) 220 (boolRow (encF (fun _ => false) p q)) → Calls Tryd.prog 32 #[ptr pm, .int .i64 r, .slice (some ⟨ga, 0, none⟩) 220 220] y fun e w' => e = .returned (.bool bb) ∧ Kp No y w') := Lib.hid (fun y ga b k row => by
        have := EvalQ (HD.out.rep.no k) HD.out.qk (.head _) (bools_row row)
        rw [EV.out] at this
        exact this)
      have SZ : Hid (∀ y, Kp No w7.drew y → Calls Tryd.prog 36 #[ptr pm, .int .i64 r] y fun e w' => e = .returned (.int .i64 ln) ∧ Kp No y w') := Lib.hid (fun y k => by
        have := Size_ok r (HD.out.rep.no k)
        rw [show M5.sizeM r = clI ln from SZE.out _ _ _ _ _ HD.out.qk (.head _), HCL.out] at this
        exact this)
      have RGD : Hid (∀ y, Kp No w7.drew y → Calls Tryd.prog 30 #[ptr pm, .int .i64 _, .bool true, .int .u32 (ad : Int), .int .u32 (ls : Int)] y fun e w' => e = .returned (.int .i64 r) ∧ TwoP w ad ln p q w') := Lib.hid (fun y k => by
        have HY := (HD.out.no k).rebase
        refine (RG.out _ _ _ _ _ _ HY (by omega)).mono ?_
        intro e wz hz
        obtain ⟨r2, M2, L2, rfl, _, f2⟩ := HY.step hz
        have e2 : r2 = r := f2.qk.eq (.head _) (.tail _ (.head _)) (fun a => (FEQ.out a).symm)
        exact ⟨by rw [e2], (TD.out.no k).mgr f2.sd.kp B5.out (by omega)⟩)
      clear EV SZE RG FEQ PX HCL
      cases bb
      all_goals
        go_upto_region 12 with (fail)
        go_region_held3 (fun y => y.cell? ⟨w.heap.size, 0, none⟩ = some (.int .u32 (ad : Int)) ∧ y.cell? ⟨w.heap.size, 1, none⟩ = some (.int .i64 ln) ∧ y.cell? ⟨w.heap.size + 1, 0, none⟩ = some (.int .u32 (p.src : Int)) ∧ y.cell? ⟨w.heap.size + 1, 1, none⟩ = some (.int .u32 (p.dst : Int)) ∧ y.cell? ⟨w.heap.size + 1, 2, none⟩ = some (.int .i64 p.proto) ∧ y.cell? ⟨w.heap.size + 1, 3, none⟩ = some (.int .i64 p.sport) ∧ y.cell? ⟨w.heap.size + 1, 4, none⟩ = some (.int .i64 p.dport) ∧ y.cell? ⟨w.heap.size + 2, 0, none⟩ = some (.int .u32 (q.src : Int)) ∧ y.cell? ⟨w.heap.size + 2, 1, none⟩ = some (.int .u32 (q.dst : Int)) ∧ y.cell? ⟨w.heap.size + 2, 2, none⟩ = some (.int .i64 q.proto) ∧ y.cell? ⟨w.heap.size + 2, 3, none⟩ = some (.int .i64 q.sport) ∧ y.cell? ⟨w.heap.size + 2, 4, none⟩ = some (.int .i64 q.dport)) (first | exact S0.out | exact SA.out | exact SB.out | exact SC.out | exact SD.out | exact SE.out | exact SF.out)
          (first | (go_at_call 31; (with_reducible refine VAL.out.mono ?_); rintro e wv ⟨rfl, rfl⟩) | (go_at_call 33; (with_reducible refine PRD.out.mono ?_); rintro e wa ⟨ga, rfl, row, ka⟩; have KA := Lib.hid ka; have SA := Lib.hid (CK.out _ (TD.out.no ka)); have CA := Lib.hid (EVQ.out _ _ _ ka row); clear ka row) | (go_at_call 32; (with_reducible refine CA.out.mono ?_); rintro e wb ⟨rfl, kb⟩; have KB := Lib.hid (KA.out.trans_no kb); have SB := Lib.hid (CK.out _ (TD.out.no KB.out)); have CB := Lib.hid (CT.out wb); clear kb) | (go_at_call 39; (with_reducible refine CB.out.mono ?_); rintro e wc ⟨rfl, kc⟩; have KC := Lib.hid (KB.out.trans_no kc); have SC := Lib.hid (CK.out _ (TD.out.no KC.out)); have CC := Lib.hid (SZ.out _ KC.out); clear kc) | (go_at_call 36; (with_reducible refine CC.out.mono ?_); rintro e wd ⟨rfl, kd⟩; have KD := Lib.hid (KC.out.trans_no kd); have SD := Lib.hid (CK.out _ (TD.out.no KD.out)); have CD := Lib.hid (LS.out wd); clear kd) | (go_at_call 40; (with_reducible refine CD.out.mono ?_); rintro e we ⟨rfl, ke⟩; have KE := Lib.hid (KD.out.trans_no ke); have SE := Lib.hid (CK.out _ (TD.out.no KE.out)); have CE := Lib.hid (RGD.out _ KE.out); clear ke) | (go_at_call 30; refine CE.out.mono ?_; rintro e wf ⟨rfl, tf⟩; have TF := Lib.hid tf; have SF := Lib.hid (CK.out _ tf); clear tf))
        all_goals
          go_wp2_with fail
          go_ret
          exact ⟨by simp, TF.out.kp⟩

end Go.Proofs.YtgglkldoclejaaaDoor
