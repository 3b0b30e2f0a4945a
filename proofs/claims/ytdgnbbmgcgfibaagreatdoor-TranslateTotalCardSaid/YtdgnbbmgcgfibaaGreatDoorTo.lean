/-
 Walks: the law TranslateTotal (printed by gen_tt.py).
-/
import Derived.Test.YtdgnbbmgcgfibaaGreatDoorTf
namespace Go.Proofs.YtdgnbbmgcgfibaaGreatDoor
open Go.RowKit

/-! ### plain -/
theorem Hf.top {w0 w : World} {p n c : Nat} {L0 L : Lay} {M : Mgr} {B : List (Int × Bfn)} (h : Hf w0 p L0 n c w M L B) {F : Bfn} (e : ∀ a, F a = true) : Hf w0 p L0 n c w M L ((1, F) :: B) :=
 Hf.cong (F := fun _ => true) (h.consts.sub (fun x hx => by
  rcases List.mem_cons.1 hx with rfl | hx
  ·exact List.Mem.tail _ (List.Mem.head _)
  ·exact List.Mem.tail _ (List.Mem.tail _ hx))) (fun a => (e a).symm)
theorem Hf.bot {w0 w : World} {p n c : Nat} {L0 L : Lay} {M : Mgr} {B : List (Int × Bfn)} (h : Hf w0 p L0 n c w M L B) : Hf w0 p L0 n c w M L ((0, fun _ => false) :: B) :=
 h.consts.sub (fun x hx => by
  rcases List.mem_cons.1 hx with rfl | hx
  ·exact List.Mem.head _
  ·exact List.Mem.tail _ (List.Mem.tail _ hx))
def anyR : Ru := ⟨true, -1, 0, 4294967295, 0, 4294967295, 0, 65535, 0, 65535⟩
theorem any_in {p : Pkt} (hp : p.ok) : gB [anyR] p = true := by
 have e1 : inB 0 65535 p.sport = true := by unfold inB; exact decide_eq_true hp.h3
 have e2 : inB 0 65535 p.dport = true := by unfold inB; exact decide_eq_true hp.h4
 show (ruB anyR p || false) = true
 unfold ruB anyR
 dsimp only
 rw [wm_any, wm_any, e1, e2]
 simp
theorem ps_eq {X Y : Pkt → Bool} (h : ∀ p : Pkt, p.ok → X p = Y p) (a : Nat → Bool) : psF X a = psF Y a := h _ (pkA_ok _ _)
theorem two_in (x y : Ru) (p : Pkt) : gB [x, y] p = (gB [x] p || gB [y] p) := by
 show (ruB x p || (ruB y p || false)) = ((ruB x p || false) || (ruB y p || false))
 cases ruB x p <;> cases ruB y p <;> rfl
theorem im_or (R : Pkt → Pkt → Prop) (X Y : Pkt → Bool) (q : Pkt) : imB R (fun p => X p || Y p) q = (imB R X q || imB R Y q) := by
 rw [Bool.eq_iff_iff, Bool.or_eq_true, imB_iff, imB_iff, imB_iff]
 constructor
 ·rintro ⟨p, h1, h2, h3⟩
  rcases Bool.or_eq_true_iff.1 h2 with h | h
  ·exact .inl ⟨p, h1, h, h3⟩
  ·exact .inr ⟨p, h1, h, h3⟩
 ·rintro (⟨p, h1, h2, h3⟩ | ⟨p, h1, h2, h3⟩)
  ·exact ⟨p, h1, by rw [h2]; rfl, h3⟩
  ·exact ⟨p, h1, by rw [h2]; simp, h3⟩
theorem im_id (X : Pkt → Bool) {p : Pkt} (hp : p.ok) : imB (dsR []) X p = X p := by
 rw [Bool.eq_iff_iff, imB_iff]
 constructor
 ·rintro ⟨q, _, h, e⟩
  have e : p = q := e
  rw [e]; exact h
 ·exact fun h => ⟨p, hp, h, rfl⟩
section
variable {ts : List Tr}
theorem pre_d (hok : ∀ t, t ∈ ts → t.ok) (X : Pkt → Bool) {p : Pkt} (hp : p.ok) : preB (dsR ts) X p = X (pkDst ts p) := by
 rw [Bool.eq_iff_iff, preB_iff]
 constructor
 ·rintro ⟨q, _, h, e⟩
  have e : q = pkDst ts p := e
  rw [← e]; exact h
 ·exact fun h => ⟨_, pkDst_ok ts hok hp, h, rfl⟩
theorem pre_s_all {ac : ByteArray → List Ru} (hok : ∀ t, t ∈ ts → t.ok) {p : Pkt} (hp : p.ok) : preB (srR ac ts) (gB [anyR]) p = true := by
 obtain ⟨q, hq⟩ : ∃ q, q ∈ pkSrc ac ts p := by
  have := pkSrc_pos ac ts p
  generalize pkSrc ac ts p = l at this
  cases l with
  | nil => cases this
  | cons q l => exact ⟨q, List.mem_cons_self ..⟩
 have ho := pkSrc_ok ac ts hok hp q hq
 exact preB_iff.2 ⟨q, ho, any_in ho, hq⟩
theorem inside (hok : ∀ t, t ∈ ts → t.ok) (X Y : Pkt → Bool) {p : Pkt} (hp : p.ok) : ((X p && preB (dsR ts) Y p) && !preB (dsR ts) (fun q => imB (dsR ts) X q && Y q) p) = false := by
 rw [pre_d hok _ hp, pre_d hok _ hp]
 cases hx : X p
 ·rfl
 ·have : imB (dsR ts) X (pkDst ts p) = true := imB_iff.2 ⟨p, hp, hx, rfl⟩
  rw [this]
  cases Y (pkDst ts p) <;> rfl
end
/-! ### counts -/
def PN (F : Bfn) (X : Pkt → Bool) (N : Nat) : Prop := ∀ M : Mgr, M.n = 220 → M.Plain → Listed (M.ProF (hvK true 104) (fun a => F a && rnF xch (psF X) a)) N
def IN (F : Bfn) (X : Pkt → Bool) (N : Nat) : Prop := ∀ M : Mgr, M.n = 220 → M.Plain → Listed (M.ProF (hvK false 104) (fun a => F a && psF X a)) N
theorem NDP1 : NDP 1 ≤ 400000000 := by decide +kernel
theorem NDP2 : NDP 2 ≤ 12000000000 := by decide +kernel
theorem NDI1 : NDI 1 ≤ 1200000000 := by decide +kernel
theorem DQ1 : DQ 1 ≤ 120000 := by decide +kernel
section
variable {ac : ByteArray → List Ru} {ts : List Tr}
theorem dsD (hok : ∀ t, t ∈ ts → t.ok) (w : Nat → Bool) : dstF (ts.map (Tr.ent ac)) w = true ↔ dsR ts (pkA false w) (pkA true w) := dst_pk ac ts hok w
theorem dsS_img (hok : ∀ t, t ∈ ts → t.ok) (X : Pkt → Bool) (w : Nat → Bool) : (dstF (ts.map (Tr.ent ac)) w && psF X w) = true ↔ DImgR ts X (pkA false w) (pkA true w) := by
 rw [Bool.and_eq_true, dst_pk ac ts hok, and_comm]
 exact Iff.rfl
theorem dsS_pre (hok : ∀ t, t ∈ ts → t.ok) (X : Pkt → Bool) (w : Nat → Bool) : (dstF (ts.map (Tr.ent ac)) w && rnF xch (psF X) w) = true ↔ DPreR ts X (pkA true w) (pkA false w) := by
 rw [xch_ps, Bool.and_eq_true, dst_pk ac ts hok, and_comm]
 exact Iff.rfl
theorem DSet.im {gs : List Ru} (hok : ∀ t, t ∈ ts → t.ok) {X : Pkt → Bool} (h : DSet ts gs X) : DSet ts gs (imB (dsR ts) X) := fun _ _ hp hq e hx => imB_iff.2 (DImg.eq hok h hp hq e (imB_iff.1 hx))
theorem DSet.one (x : Ru) (gs : List Ru) (h : x ∈ gs) : DSet ts gs (Go.Proofs.YtdgnbbmgcgfibaaGreatDoor.gB [x]) := DSet.gB (fun y hy => by rw [List.mem_singleton.1 hy]; exact h)
theorem DSet.me (x : Ru) : DSet ts [x] (Go.Proofs.YtdgnbbmgcgfibaaGreatDoor.gB [x]) := DSet.one x _ (List.mem_cons_self ..)
theorem preD_N (hok : ∀ t, t ∈ ts → t.ok) (h4 : ts.length ≤ 4) (x : Ru) {X : Pkt → Bool} (hX : DSet ts [x] X) : PN (dstF (ts.map (Tr.ent ac))) X 400000000 :=
 fun M hn hp => (dpre_listed hok h4 hX (dsS_pre hok X) M hn hp).mono (fun _ h => h) NDP1
theorem preD_N2 (hok : ∀ t, t ∈ ts → t.ok) (h4 : ts.length ≤ 4) (x y : Ru) {X : Pkt → Bool} (hX : DSet ts [x, y] X) : PN (dstF (ts.map (Tr.ent ac))) X 12000000000 :=
 fun M hn hp => (dpre_listed hok h4 hX (dsS_pre hok X) M hn hp).mono (fun _ h => h) NDP2
theorem preD_s (hok : ∀ t, t ∈ ts → t.ok) (h4 : ts.length ≤ 4) (x : Ru) {X : Pkt → Bool} (hX : DSet ts [x] X) : PSt 220 (psF (preB (dsR ts) X)) 120000 := by
 have := (dpre_st hok h4 hX (F := fun a => dstF (ts.map (Tr.ent (fun _ => []))) a && rnF xch (psF X) a) (dsS_pre hok X)).mono DQ1
 rw [ex_pre (R := dsR ts) (dst_pk _ ts hok)] at this
 exact this
theorem DQ2 : DQ 2 ≤ 4000000 := by decide +kernel
theorem preD_s2 (hok : ∀ t, t ∈ ts → t.ok) (h4 : ts.length ≤ 4) (x y : Ru) {X : Pkt → Bool} (hX : DSet ts [x, y] X) : PSt 220 (psF (preB (dsR ts) X)) 4000000 := by
 have := (dpre_st hok h4 hX (F := fun a => dstF (ts.map (Tr.ent (fun _ => []))) a && rnF xch (psF X) a) (dsS_pre hok X)).mono DQ2
 rw [ex_pre (R := dsR ts) (dst_pk _ ts hok)] at this
 exact this
theorem imD_N (hok : ∀ t, t ∈ ts → t.ok) (h4 : ts.length ≤ 4) (x : Ru) {X : Pkt → Bool} (hX : DSet ts [x] X) : IN (dstF (ts.map (Tr.ent ac))) X 1200000000 :=
 fun M hn hp => (dimg_listed hok h4 hX (dsS_img hok X) M hn hp).mono (fun _ h => h) NDI1
theorem imD_s (hok : ∀ t, t ∈ ts → t.ok) (h4 : ts.length ≤ 4) (x : Ru) {X : Pkt → Bool} (hX : DSet ts [x] X) : PSt 220 (exQ (hvK false 104) (fun a => dstF (ts.map (Tr.ent ac)) a && psF X a)) 120000 :=
 (dimg_st hok h4 hX (dsS_img hok X)).mono DQ1
theorem imS_N2 (hok : ∀ t, t ∈ ts → t.ok) (hac : ∀ t, t ∈ ts → (ac t.nm).length ≤ 4) (h4 : ts.length ≤ 4) (x y : Ru) : IN (srcF (ts.map (Tr.ent ac))) (gB [x, y]) 761200000000 :=
 fun M hn hp => (img_listed hok hac h4 (srS_img hok) M hn hp).mono (fun _ h => h) NI2
theorem imS_s2 (hok : ∀ t, t ∈ ts → t.ok) (hac : ∀ t, t ∈ ts → (ac t.nm).length ≤ 4) (h4 : ts.length ≤ 4) (x y : Ru) : PSt 220 (exQ (hvK false 104) (fun a => srcF (ts.map (Tr.ent ac)) a && psF (gB [x, y]) a)) 320100000 :=
 (img_st hok hac h4 (srS_img hok)).mono TB2
end

/-! ### the walk -/
structure TtB (b : Nat) (cs : Array Value) (m1 m2 : Mt) (y : World) : Prop where
 r : y.heap[b]? = some (.cells cs 41 (0, 0))
 q1 : MtAt y (b + 1) m1
 q2 : MtAt y (b + 2) m2
theorem TtB.kp {A : Nat → Prop} {b : Nat} {cs : Array Value} {m1 m2 : Mt} {y y' : World} (h : TtB b cs m1 m2 y) (k : Kp A y y') (a0 : ¬ A b) (a1 : ¬ A (b + 1)) (a2 : ¬ A (b + 2)) : TtB b cs m1 m2 y' :=
 ⟨(k.block _ (heap_lt h.r) a0).trans h.r, h.q1.kp k a1, h.q2.kp k a2⟩
theorem TtB.no {b : Nat} {cs : Array Value} {m1 m2 : Mt} {y y' : World} (h : TtB b cs m1 m2 y) (k : Kp No y y') : TtB b cs m1 m2 y' := h.kp k (fun h => h) (fun h => h) (fun h => h)
def TtS (b : Nat) (cs : Array Value) (m1 m2 : Mt) (y : World) : Prop := y.heap[b]? = some (.cells cs 41 (0, 0)) ∧ (y.cell? ⟨b + 1, 0, none⟩ = some (.int .u32 (m1.sa : Int)) ∧ y.cell? ⟨b + 1, 1, none⟩ = some (.int .i64 m1.sl) ∧ y.cell? ⟨b + 1, 2, none⟩ = some (.int .u32 (m1.da : Int)) ∧ y.cell? ⟨b + 1, 3, none⟩ = some (.int .i64 m1.dl) ∧ y.cell? ⟨b + 1, 4, none⟩ = some (.int .i64 m1.pr) ∧ y.cell? ⟨b + 1, 5, none⟩ = some (.int .i64 m1.s0) ∧ y.cell? ⟨b + 1, 6, none⟩ = some (.int .i64 m1.s1) ∧ y.cell? ⟨b + 1, 7, none⟩ = some (.int .i64 m1.d0) ∧ y.cell? ⟨b + 1, 8, none⟩ = some (.int .i64 m1.d1)) ∧ y.cell? ⟨b + 2, 0, none⟩ = some (.int .u32 (m2.sa : Int)) ∧ y.cell? ⟨b + 2, 1, none⟩ = some (.int .i64 m2.sl) ∧ y.cell? ⟨b + 2, 2, none⟩ = some (.int .u32 (m2.da : Int)) ∧ y.cell? ⟨b + 2, 3, none⟩ = some (.int .i64 m2.dl) ∧ y.cell? ⟨b + 2, 4, none⟩ = some (.int .i64 m2.pr) ∧ y.cell? ⟨b + 2, 5, none⟩ = some (.int .i64 m2.s0) ∧ y.cell? ⟨b + 2, 6, none⟩ = some (.int .i64 m2.s1) ∧ y.cell? ⟨b + 2, 7, none⟩ = some (.int .i64 m2.d0) ∧ y.cell? ⟨b + 2, 8, none⟩ = some (.int .i64 m2.d1)
theorem TtB.s {b : Nat} {cs : Array Value} {m1 m2 : Mt} {y : World} (h : TtB b cs m1 m2 y) : TtS b cs m1 m2 y := by
 obtain ⟨a0, a1, a2, a3, a4, a5, a6, a7, a8⟩ := h.q1.c
 obtain ⟨b0, b1, b2, b3, b4, b5, b6, b7, b8⟩ := h.q2.c
 exact ⟨h.r, ⟨a0, a1, a2, a3, a4, a5, a6, a7, a8⟩, b0, b1, b2, b3, b4, b5, b6, b7, b8⟩
set_option maxRecDepth 1000000 in
set_option maxHeartbeats 16000000 in
theorem TranslateTotal_walk (cs : Array Value) (m1 m2 : Mt) (h32 : m1.in32) (h33 : m2.in32) {w : World} (ok : RtC w cs) (g : Gl w) :
  Calls Tryz.prog 3 #[.agg cs, mtV m1, mtV m2] w fun e w' => e = .returned (.bool true) ∧ Kp No w w' := by
 have h0 := heap_alloc_new w (.cells cs 41)
 have z0 : (w.alloc (.cells cs 41)).heap.size = w.heap.size + 1 := by simp
 have k0 : Kp No w (w.alloc (.cells cs 41)) := Kp.alloc _
 have VM1 := Lib.hid (fun (y : World) => ValidMatch_ok m1 y)
 have VM2 := Lib.hid (fun (y : World) => ValidMatch_ok m2 y)
 have OK0 := Lib.hid ok
 have CSZ := Lib.hid ok.sz
 have G0 := Lib.hid g
 have H32 := Lib.hid h32
 have H33 := Lib.hid h33
 obtain ⟨b1, hb1⟩ : ∃ b, mtB m1 = b := ⟨_, rfl⟩
 obtain ⟨b2, hb2⟩ : ∃ b, mtB m2 = b := ⟨_, rfl⟩
 rw [hb1] at VM1
 rw [hb2] at VM2
 have HB1 := Lib.hid hb1
 have HB2 := Lib.hid hb2
 clear ok g hb1 hb2 h32 h33
 unfold mtV at VM1 VM2 ⊢
 go_enter Tryz.func3, Tryz.ntmps3
 go_upto_region 1 with fail
 generalize w.alloc (.cells cs 41) = X0 at *
 have h1 := MtAt.new X0 m1
 have k1 := Kp.alloc (w := X0) (.cells #[.int .u32 (m1.sa : Int), .int .i64 m1.sl, .int .u32 (m1.da : Int), .int .i64 m1.dl, .int .i64 m1.pr, .int .i64 m1.s0, .int .i64 m1.s1, .int .i64 m1.d0, .int .i64 m1.d1] 48)
 have z1 : (X0.alloc (.cells #[.int .u32 (m1.sa : Int), .int .i64 m1.sl, .int .u32 (m1.da : Int), .int .i64 m1.dl, .int .i64 m1.pr, .int .i64 m1.s0, .int .i64 m1.s1, .int .i64 m1.d0, .int .i64 m1.d1] 48)).heap.size = w.heap.size + 2 := by simp [z0]
 rw [z0] at h1
 generalize X0.alloc (.cells #[.int .u32 (m1.sa : Int), .int .i64 m1.sl, .int .u32 (m1.da : Int), .int .i64 m1.dl, .int .i64 m1.pr, .int .i64 m1.s0, .int .i64 m1.s1, .int .i64 m1.d0, .int .i64 m1.d1] 48) = X1 at *
 have h2 := MtAt.new X1 m2
 have k2 := Kp.alloc (w := X1) (.cells #[.int .u32 (m2.sa : Int), .int .i64 m2.sl, .int .u32 (m2.da : Int), .int .i64 m2.dl, .int .i64 m2.pr, .int .i64 m2.s0, .int .i64 m2.s1, .int .i64 m2.d0, .int .i64 m2.d1] 48)
 rw [z1] at h2
 generalize X1.alloc (.cells #[.int .u32 (m2.sa : Int), .int .i64 m2.sl, .int .u32 (m2.da : Int), .int .i64 m2.dl, .int .i64 m2.pr, .int .i64 m2.s0, .int .i64 m2.s1, .int .i64 m2.d0, .int .i64 m2.d1] 48) = X at *
 have R0 : Hid (TtB w.heap.size cs m1 m2 X) := Lib.hid ⟨((k1.trans_no k2).block _ (heap_lt h0) (fun h => h)).trans h0, h1.no k2, h2⟩
 have K0 := Lib.hid (k0.trans_no (k1.trans_no k2))
 have AW := Lib.hid (tawake_ok (G0.out.no K0.out))
 clear h0 h1 h2 k0 k1 k2 z0 z1
 go_wp2_with fail
 refine AW.out.mono ?_
 rintro e w1 ⟨rfl, k1⟩
 have K1 := Lib.hid (K0.out.trans_no k1)
 have R1 := Lib.hid (R0.out.no k1)
 clear k1 AW K0 R0
 have OK1 := Lib.hid (OK0.out.no K1.out)
 have SM := Lib.hid (Small_any cs w1 OK1.out)
 go_wp2_with (first | (refine wpList_load_rt rfl _ rfl w.heap.size rfl cs CSZ.out R1.out.r ?_))
 refine SM.out.mono ?_
 rintro e w2 ⟨b, rfl, k2, hb⟩
 have HB := Lib.hid hb
 have K12 := Lib.hid k2
 have K2 := Lib.hid (K1.out.trans_no k2)
 have R2 := Lib.hid (R1.out.no k2)
 clear hb k2 SM
 cases b
 ·go_wp2
  go_ret
  exact ⟨rfl, K2.out⟩
 obtain ⟨c0, c1, c2, c3, c4, c5, c6, c7, c8⟩ := R2.out.q1.c
 go_wp2_with fail
 refine (VM1.out _).mono ?_
 rintro e w3 ⟨rfl, k3⟩
 have K13 := Lib.hid (K12.out.trans_no k3)
 have K3 := Lib.hid (K2.out.trans_no k3)
 have R3 := Lib.hid (R2.out.no k3)
 clear k3 c0 c1 c2 c3 c4 c5 c6 c7 c8 VM1
 cases b1
 ·go_wp2
  go_ret
  exact ⟨rfl, K3.out⟩
 obtain ⟨c0, c1, c2, c3, c4, c5, c6, c7, c8⟩ := R3.out.q2.c
 go_wp2_with fail
 refine (VM2.out _).mono ?_
 rintro e w4 ⟨rfl, k4⟩
 have K14 := Lib.hid (K13.out.trans_no k4)
 have K4 := Lib.hid (K3.out.trans_no k4)
 have R4 := Lib.hid (R3.out.no k4)
 clear k4 c0 c1 c2 c3 c4 c5 c6 c7 c8 VM2
 cases b2
 ·go_wp2
  go_ret
  exact ⟨rfl, K4.out⟩
 obtain ⟨ts, acs, hts, hok, hle, hro, hat⟩ := router_lists OK1.out (HB.out (by first | rfl | trivial))
 have HTS := Lib.hid (And.intro hts hok)
 have HAT := Lib.hid hat
 have HLE := Lib.hid hle
 have HRO := Lib.hid hro
 have NEW := Lib.hid (HNew_ok w4)
 clear hts hok hle hro hat
 go_wp2_with fail
 refine NEW.out.mono ?_
 rintro e W ⟨pm, L, rfl, RR, k5, o5⟩
 have H0 := Lib.hid (hf_new G0.out K4.out RR k5 o5)
 have LO : Hid (∀ z, L.at pm z → w4.heap.size ≤ z) := Lib.hid o5
 have RW := Lib.hid (R4.out.no k5)
 have KW := Lib.hid (K4.out.trans_no k5)
 have NAL := Lib.hid (HAT.out W pm L (K14.out.trans_no k5) (fun k hk h => by have := o5 k h; have := K14.out.size; omega))
 have NL : Hid (¬ L.at pm w.heap.size ∧ ¬ L.at pm (w.heap.size + 1) ∧ ¬ L.at pm (w.heap.size + 2)) := Lib.hid (by
  have r0 := heap_lt R4.out.r
  have r1 := heap_lt R4.out.q1
  have r2 := heap_lt R4.out.q2
  refine ⟨fun h => ?_, fun h => ?_, fun h => ?_⟩ <;> (have := LO.out _ h; omega))
 have LO2 : Hid (∀ z, L.at pm z → w.heap.size ≤ z) := Lib.hid (fun z h => by have := LO.out z h; have := K4.out.size; omega)
 clear RR k5 o5 NEW K1 K2 K3 R1 R2 R3 R4 HAT LO K12 K13 K14
 have SF : Hid (∀ y, Kp (L.at pm) W y → TtS w.heap.size cs m1 m2 y) := Lib.hid (fun y k => (RW.out.kp k NL.out.1 NL.out.2.1 NL.out.2.2).s)
 have NF : Hid (∀ y L', Kp (L.at pm) W y → Fresh (L.at pm) (L'.at pm) W → NatAt y pm L' cs ts ∧ AcAt y pm L' cs acs) := Lib.hid (fun y L' k f => ⟨NAL.out.1.to k f, NAL.out.2.of k f⟩)
 clear NAL RW
 have HAC : Hid (∀ t, t ∈ ts → (acG acs t.nm).length ≤ 4) := Lib.hid (fun t _ => acG_le HLE.out)
 go_upto_region 6 with fail
 have H1 := Lib.hid (H0.out.no (Kp.drew (w := W)))
 refine wp_region_held_drew (S := TtS w.heap.size cs m1 m2) (by kernel_rfl) (SF.out _ H1.out.sd.kp) (fun hS => ?_)
 generalize W.drew = y1 at *
 clear H0
 refine tk 0 hS ?_
 refine tk 1 (v := .agg cs) hS ?_ (hy := yields_load_rt (by kernel_rfl) _ rfl w.heap.size rfl cs CSZ.out (fun _ h => h.1))
 refine tk 3 hS ?_
 refine tk 4 (v := .agg cs) hS ?_ (hy := yields_load_rt (by kernel_rfl) _ rfl w.heap.size rfl cs CSZ.out (fun _ h => h.1))
 refine tk 6 hS ?_
 have CC2 := Lib.hid (Dest_ok cs CSZ.out ts (acG acs) HTS.out.1 HTS.out.2 HAC.out H1.out.rep H1.out.qk H1.out.gl H1.out.off (NF.out _ _ H1.out.sd.kp H1.out.sd.fr).1 (by omega))
 refine op1 2 (fun K hK => ?_)
 go_simp
 go_at_call 9
 refine CC2.out.mono ?_
 intro e y2 o
 obtain ⟨rd, M2, L2, rfl, _, f⟩ := H1.out.step o
 have H2 := Lib.hid ((f).mono (c' := 1000000010) (by omega))
 clear o f CC2
 go_wp2_with fail
 refine hK.out _ _ (SF.out _ H2.out.sd.kp) (fun hHeld => ?_)
 clear hK K hS
 have hS := hHeld
 clear hHeld
 try simp only [Act.put, List.setIfInBounds_toArray, List.set_cons_zero, List.set_cons_succ]
 have CC3 := Lib.hid (Source_ok cs CSZ.out ts acs HLE.out HRO.out HTS.out.1 HTS.out.2 H2.out.rep H2.out.qk H2.out.gl H2.out.off (NF.out _ _ H2.out.sd.kp H2.out.sd.fr).1 (NF.out _ _ H2.out.sd.kp H2.out.sd.fr).2 (by omega))
 refine op1 5 (fun K hK => ?_)
 go_simp
 go_at_call 10
 refine CC3.out.mono ?_
 intro e y3 o
 obtain ⟨rs, M3, L3, rfl, _, f⟩ := H2.out.step o
 have H3 := Lib.hid ((f).mono (c' := 262000000000) (by omega))
 clear o f CC3
 go_wp2_with fail
 refine hK.out _ _ (SF.out _ H3.out.sd.kp) (fun hHeld => ?_)
 clear hK K hS
 have hS := hHeld
 clear hHeld
 try simp only [Act.put, List.setIfInBounds_toArray, List.set_cons_zero, List.set_cons_succ]
 have CC4 := Lib.hid (TId_ok H3.out.rep H3.out.qk H3.out.gl H3.out.off (by omega))
 refine op1 7 (fun K hK => ?_)
 go_simp
 go_at_call 11
 refine CC4.out.mono ?_
 intro e y4 o
 obtain ⟨ri, M4, L4, rfl, _, f⟩ := H3.out.step o
 have H4 := Lib.hid ((f.cong (G := dstF (([] : List Tr).map (Tr.ent (acG acs)))) (fun a => rfl)).mono (c' := 262100000000) (by omega))
 clear o f CC4
 go_wp2_with fail
 refine hK.out _ _ (SF.out _ H4.out.sd.kp) (fun hHeld => ?_)
 clear hK K hS
 have hS := hHeld
 clear hHeld
 try simp only [Act.put, List.setIfInBounds_toArray, List.set_cons_zero, List.set_cons_succ]
 refine tk 8 hS ?_
 refine tk 9 hS ?_
 refine tk 10 hS ?_
 refine wpAnyH_done (by kernel_rfl) ?_ _
 clear hS
 go_upto_region 7 with fail
 have H5 := Lib.hid (H4.out.no (Kp.drew (w := y4)))
 refine wp_region_held_drew (S := TtS w.heap.size cs m1 m2) (by kernel_rfl) (SF.out _ H5.out.sd.kp) (fun hS => ?_)
 generalize y4.drew = y5 at *
 clear H4
 refine tk 0 hS ?_
 refine tk 1 hS ?_
 refine tk 3 hS ?_
 refine tk 4 hS ?_
 have CC6 := Lib.hid (Match_ok m1 H32.out HB1.out false H5.out.rep H5.out.qk H5.out.gl H5.out.off (by omega))
 rw [mt_ps HB1.out] at CC6
 unfold mtV at CC6
 refine op1 2 (fun K hK => ?_)
 go_simp
 go_at_call 12
 refine CC6.out.mono ?_
 intro e y6 o
 obtain ⟨rf, M6, L6, rfl, _, f⟩ := H5.out.step o
 have H6 := Lib.hid ((f).mono (c' := 262300000000) (by omega))
 clear o f CC6
 go_wp2_with fail
 refine hK.out _ _ (SF.out _ H6.out.sd.kp) (fun hHeld => ?_)
 clear hK K hS
 have hS := hHeld
 clear hHeld
 try simp only [Act.put, List.setIfInBounds_toArray, List.set_cons_zero, List.set_cons_succ]
 have CC7 := Lib.hid (Match_ok m2 H33.out HB2.out false H6.out.rep H6.out.qk H6.out.gl H6.out.off (by omega))
 rw [mt_ps HB2.out] at CC7
 unfold mtV at CC7
 refine op1 5 (fun K hK => ?_)
 go_simp
 go_at_call 12
 refine CC7.out.mono ?_
 intro e y7 o
 obtain ⟨rg, M7, L7, rfl, _, f⟩ := H6.out.step o
 have H7 := Lib.hid ((f).mono (c' := 262500000000) (by omega))
 clear o f CC7
 go_wp2_with fail
 refine hK.out _ _ (SF.out _ H7.out.sd.kp) (fun hHeld => ?_)
 clear hK K hS
 have hS := hHeld
 clear hHeld
 try simp only [Act.put, List.setIfInBounds_toArray, List.set_cons_zero, List.set_cons_succ]
 refine tk 6 hS ?_
 refine tk 7 hS ?_
 refine wpAnyH_done (by kernel_rfl) ?_ _
 clear hS
 clear SF NF
 have H8 := Lib.hid ((H7.out.bot).top (F := psF (gB [anyR])) (fun a => any_in (pkA_ok _ _)))
 clear H7
 obtain ⟨S, hS⟩ : ∃ S, S = srcF (ts.map (Tr.ent (acG acs))) := ⟨_, rfl⟩
 obtain ⟨D, hD⟩ : ∃ D, D = dstF (ts.map (Tr.ent (acG acs))) := ⟨_, rfl⟩
 obtain ⟨I, hI⟩ : ∃ I, I = dstF (([] : List Tr).map (Tr.ent (acG acs))) := ⟨_, rfl⟩
 rw [← hS, ← hD, ← hI] at H8
 have NOT : ∀ t, t ∈ ([] : List Tr) → t.ok := fun t h => by cases h
 have SPK : Hid (∀ w, S w = true ↔ srR (acG acs) ts (pkA false w) (pkA true w)) := Lib.hid (fun w => by rw [hS]; exact src_pk (acG acs) ts HTS.out.2 w)
 have DPK : Hid (∀ w, D w = true ↔ dsR ts (pkA false w) (pkA true w)) := Lib.hid (fun w => by rw [hD]; exact dsD HTS.out.2 w)
 have IPK : Hid (∀ w, I w = true ↔ dsR [] (pkA false w) (pkA true w)) := Lib.hid (fun w => by rw [hI]; exact dsD NOT w)
 have FST : Hid (PSt 220 (psF (gB [muR m1])) 230) := Lib.hid (by rw [← mt_ps HB1.out]; exact mtF_few m1 false)
 have GST : Hid (PSt 220 (psF (gB [muR m2])) 230) := Lib.hid (by rw [← mt_ps HB2.out]; exact mtF_few m2 false)
 have TST : Hid (PSt 220 (psF (gB [anyR])) 1) := Lib.hid ((PSt.const 220 true).congr (fun a => any_in (pkA_ok _ _)))
 generalize muR m1 = x at *
 generalize muR m2 = z at *
 have DX : Hid (DSet ts [x] (gB [x])) := Lib.hid (DSet.me x)
 have PDN : Hid (∀ (x : Ru) (X : Pkt → Bool), DSet ts [x] X → PN D X 400000000) := Lib.hid (fun x X h => by rw [hD]; exact preD_N HTS.out.2 HTS.out.1 x h)
 have PD2 : Hid (∀ (X : Pkt → Bool), DSet ts [x, z] X → PN D X 12000000000) := Lib.hid (fun X h => by rw [hD]; exact preD_N2 HTS.out.2 HTS.out.1 x z h)
 have PDS : Hid (∀ (x : Ru) (X : Pkt → Bool), DSet ts [x] X → PSt 220 (psF (preB (dsR ts) X)) 120000) := Lib.hid (fun x X h => preD_s HTS.out.2 HTS.out.1 x h)
 have PDS2 : Hid (∀ (X : Pkt → Bool), DSet ts [x, z] X → PSt 220 (psF (preB (dsR ts) X)) 4000000) := Lib.hid (fun X h => preD_s2 HTS.out.2 HTS.out.1 x z h)
 have IDN : Hid (IN D (gB [x]) 1200000000) := Lib.hid (by rw [hD]; exact imD_N HTS.out.2 HTS.out.1 x DX.out)
 have IDS : Hid (PSt 220 (exQ (hvK false 104) (fun a => D a && psF (gB [x]) a)) 120000) := Lib.hid (by rw [hD]; exact imD_s HTS.out.2 HTS.out.1 x DX.out)
 have IIN : Hid (IN I (gB [x]) 1200000000) := Lib.hid (by rw [hI]; exact imD_N NOT (Nat.zero_le _) x (DSet.me x))
 have IIS : Hid (PSt 220 (exQ (hvK false 104) (fun a => I a && psF (gB [x]) a)) 120000) := Lib.hid (by rw [hI]; exact imD_s NOT (Nat.zero_le _) x (DSet.me x))
 have PIN : Hid (PN I (gB [x]) 400000000) := Lib.hid (by rw [hI]; exact preD_N NOT (Nat.zero_le _) x (DSet.me x))
 have PSN : Hid (∀ (x : Ru), PN S (gB [x]) 88700000000) := Lib.hid (fun x => by rw [hS]; exact preS_N HTS.out.2 HAC.out HTS.out.1 x)
 have ISN : Hid (∀ (x : Ru), IN S (gB [x]) 361300000000) := Lib.hid (fun x => by rw [hS]; exact imS_N HTS.out.2 HAC.out HTS.out.1 x)
 have ISS : Hid (∀ (x : Ru), PSt 220 (exQ (hvK false 104) (fun a => S a && psF (gB [x]) a)) 151400000) := Lib.hid (fun x => by rw [hS]; exact imS_s HTS.out.2 HAC.out HTS.out.1 x)
 have IS2 : Hid (IN S (gB [x, z]) 761200000000) := Lib.hid (by rw [hS]; exact imS_N2 HTS.out.2 HAC.out HTS.out.1 x z)
 have SS2 : Hid (PSt 220 (exQ (hvK false 104) (fun a => S a && psF (gB [x, z]) a)) 320100000) := Lib.hid (by rw [hS]; exact imS_s2 HTS.out.2 HAC.out HTS.out.1 x z)
 clear hS hD hI NOT
 obtain ⟨R, hR⟩ : ∃ R, R = srR (acG acs) ts := ⟨_, rfl⟩
 have ALL : Hid (∀ p : Pkt, p.ok → preB R (gB [anyR]) p = true) := Lib.hid (fun p hp => by rw [hR]; exact pre_s_all HTS.out.2 hp)
 rw [← hR] at SPK
 clear hR
 go_upto_region 8 with fail
 go_wp2_with fail
 refine (PreP_ok H8.out.rep H8.out.qk H8.out.gl H8.out.off B6 B0 DPK.out (PDN.out anyR (gB [anyR]) (DSet.me anyR)) TST.out (by omega)).mono ?_
 intro e y9 o
 obtain ⟨r1, M9, L9, rfl, _, f⟩ := H8.out.step o
 have H9 := Lib.hid ((f).mono (c' := 263000000000) (by omega))
 clear o f
 have e1 : r1 = 1 := H9.out.qk.eq B0 B1 (fun a => ps_eq (fun p hp => by rw [pre_d HTS.out.2 _ hp, any_in (pkDst_ok ts HTS.out.2 hp), any_in hp]) a)
 subst e1
 go_wp2_with fail
 refine (PreP_ok H9.out.rep H9.out.qk H9.out.gl H9.out.off B6 B1 SPK.out (PSN.out anyR) TST.out (by omega)).mono ?_
 intro e y10 o
 obtain ⟨r2, M10, L10, rfl, _, f⟩ := H9.out.step o
 have H10 := Lib.hid ((f).mono (c' := 352000000000) (by omega))
 clear o f
 have e2 : r2 = 1 := H10.out.qk.eq B0 B2 (fun a => ps_eq (fun p hp => by rw [ALL.out p hp, any_in hp]) a)
 subst e2
 go_wp2_with fail
 refine (ImgP_ok H10.out.rep H10.out.qk H10.out.gl H10.out.off B6 B5 IPK.out IIN.out IIS.out (by omega)).mono ?_
 intro e y11 o
 obtain ⟨r3, M11, L11, rfl, _, f⟩ := H10.out.step o
 have H11 := Lib.hid ((f).mono (c' := 354000000000) (by omega))
 clear o f
 have e3 : r3 = rf := H11.out.qk.eq B0 B6 (fun a => ps_eq (fun p hp => im_id _ hp) a)
 subst e3
 go_wp2_with fail
 refine (PreP_ok H11.out.rep H11.out.qk H11.out.gl H11.out.off B7 B6 IPK.out PIN.out FST.out (by omega)).mono ?_
 intro e y12 o
 obtain ⟨r4, M12, L12, rfl, _, f⟩ := H11.out.step o
 have H12 := Lib.hid ((f).mono (c' := 355000000000) (by omega))
 clear o f
 have e4 : r4 = r3 := H12.out.qk.eq B0 B7 (fun a => ps_eq (fun p hp => pre_d (fun t h => by cases h) _ hp) a)
 subst e4
 go_wp2_with fail
 refine (OrQ H12.out.rep H12.out.qk B7 B6 (s := 52900) (PSt.op (fun a b => a || b) FST.out GST.out) (by omega)).mono ?_
 intro e y13 o
 obtain ⟨r5, M13, L13, rfl, _, f⟩ := H12.out.step o
 have H13 := Lib.hid ((f.cong (G := psF (gB [x, z])) (fun a => (two_in x z _).symm)).mono (c' := 355100000000) (by omega))
 clear o f
 go_wp2_with fail
 refine (ImgP_ok H13.out.rep H13.out.qk H13.out.gl H13.out.off B10 B0 SPK.out IS2.out SS2.out (by omega)).mono ?_
 intro e y14 o
 obtain ⟨r6, M14, L14, rfl, _, f⟩ := H13.out.step o
 have H14 := Lib.hid ((f).mono (c' := 1471000000000) (by omega))
 clear o f
 go_wp2_with fail
 refine (ImgP_ok H14.out.rep H14.out.qk H14.out.gl H14.out.off B11 B9 SPK.out (ISN.out x) (ISS.out x) (by omega)).mono ?_
 intro e y15 o
 obtain ⟨r7, M15, L15, rfl, _, f⟩ := H14.out.step o
 have H15 := Lib.hid ((f).mono (c' := 2000000000000) (by omega))
 clear o f
 go_wp2_with fail
 refine (ImgP_ok H15.out.rep H15.out.qk H15.out.gl H15.out.off B12 B9 SPK.out (ISN.out z) (ISS.out z) (by omega)).mono ?_
 intro e y16 o
 obtain ⟨r8, M16, L16, rfl, _, f⟩ := H15.out.step o
 have H16 := Lib.hid ((f).mono (c' := 2530000000000) (by omega))
 clear o f
 have EU : Hid (∀ a, psF (imB R (gB [x, z])) a = (psF (imB R (gB [x])) a || psF (imB R (gB [z])) a)) := Lib.hid (fun a => by
  show imB R (gB [x, z]) (pkA false a) = (imB R (gB [x]) (pkA false a) || imB R (gB [z]) (pkA false a))
  rw [← im_or, show gB [x, z] = fun p => gB [x] p || gB [z] p from funext (two_in x z)])
 go_wp2_with fail
 refine (OrQ H16.out.rep H16.out.qk B1 B0 (s := 320100000) ((im_st SPK.out SS2.out).congr (fun a => (EU.out a).symm)) (by omega)).mono ?_
 intro e y17 o
 obtain ⟨r9, M17, L17, rfl, _, f⟩ := H16.out.step o
 have H17 := Lib.hid ((f.cong (G := psF (imB R (gB [x, z]))) (fun a => (EU.out a).symm)).mono (c' := 2680000000000) (by omega))
 clear o f
 have e6 : r6 = r9 := H17.out.qk.eq B3 B0 (fun a => rfl)
 subst e6
 go_wp2_with fail
 refine (NotQ H17.out.rep H17.out.qk B12 FST.out (by omega)).mono ?_
 intro e y18 o
 obtain ⟨r10, M18, L18, rfl, _, f⟩ := H17.out.step o
 have H18 := Lib.hid ((f.cong (G := psF (fun p => !gB [x] p)) (fun a => rfl)).mono (c' := 2681000000000) (by omega))
 clear o f
 go_wp2_with fail
 refine (PreP_ok H18.out.rep H18.out.qk H18.out.gl H18.out.off B16 B0 DPK.out (PDN.out x _ DX.out.not) FST.out.not (by omega)).mono ?_
 intro e y19 o
 obtain ⟨r11, M19, L19, rfl, _, f⟩ := H18.out.step o
 have H19 := Lib.hid ((f).mono (c' := 2682000000000) (by omega))
 clear o f
 go_wp2_with fail
 refine (PreP_ok H19.out.rep H19.out.qk H19.out.gl H19.out.off B17 B14 DPK.out (PDN.out x _ DX.out) FST.out (by omega)).mono ?_
 intro e y20 o
 obtain ⟨r12, M20, L20, rfl, _, f⟩ := H19.out.step o
 have H20 := Lib.hid ((f).mono (c' := 2683000000000) (by omega))
 clear o f
 go_wp2_with fail
 refine (NotQ H20.out.rep H20.out.qk B0 (PDS.out x _ DX.out) (by omega)).mono ?_
 intro e y21 o
 obtain ⟨r13, M21, L21, rfl, _, f⟩ := H20.out.step o
 have H21 := Lib.hid ((f.cong (G := psF (fun p => !preB (dsR ts) (gB [x]) p)) (fun a => rfl)).mono (c' := 2684000000000) (by omega))
 clear o f
 have e11 : r11 = r13 := H21.out.qk.eq B2 B0 (fun a => ps_eq (fun p hp => by rw [pre_d HTS.out.2 _ hp, pre_d HTS.out.2 _ hp]) a)
 subst e11
 go_wp2_with fail
 refine (PreP_ok H21.out.rep H21.out.qk H21.out.gl H21.out.off B19 B15 DPK.out (PDN.out z _ (DSet.me z)) GST.out (by omega)).mono ?_
 intro e y22 o
 obtain ⟨r14, M22, L22, rfl, _, f⟩ := H21.out.step o
 have H22 := Lib.hid ((f).mono (c' := 2685000000000) (by omega))
 clear o f
 go_wp2_with fail
 refine (AndQ H22.out.rep H22.out.qk B17 B0 (s := 27600000) ((PSt.op (fun a b => a && b) FST.out (PDS.out z _ (DSet.me z))).mono (by decide)) (by omega)).mono ?_
 intro e y23 o
 obtain ⟨r15, M23, L23, rfl, _, f⟩ := H22.out.step o
 have H23 := Lib.hid ((f.cong (G := psF (fun p => gB [x] p && preB (dsR ts) (gB [z]) p)) (fun a => rfl)).mono (c' := 2692000000000) (by omega))
 clear o f
 go_wp2_with fail
 refine (ImgP_ok H23.out.rep H23.out.qk H23.out.gl H23.out.off (List.Mem.tail _ (List.Mem.tail _ B19)) B18 DPK.out IDN.out IDS.out (by omega)).mono ?_
 intro e y24 o
 obtain ⟨r16, M24, L24, rfl, _, f⟩ := H23.out.step o
 have H24 := Lib.hid ((f).mono (c' := 2694000000000) (by omega))
 clear o f
 go_wp2_with fail
 refine (AndQ H24.out.rep H24.out.qk B0 B18 (s := 27600000) ((PSt.op (fun a b => a && b) (im_st DPK.out IDS.out) GST.out).mono (by decide)) (by omega)).mono ?_
 intro e y25 o
 obtain ⟨r17, M25, L25, rfl, _, f⟩ := H24.out.step o
 have H25 := Lib.hid ((f.cong (G := psF (fun p => imB (dsR ts) (gB [x]) p && gB [z] p)) (fun a => rfl)).mono (c' := 2707000000000) (by omega))
 clear o f
 have D2 : Hid (DSet ts [x, z] (fun p => imB (dsR ts) (gB [x]) p && gB [z] p)) := Lib.hid (DSet.and (DSet.im HTS.out.2 (DSet.one x _ (List.mem_cons_self ..))) (DSet.one z _ (List.mem_cons_of_mem _ (List.mem_cons_self ..))))
 have S2 : Hid (PSt 220 (psF (fun p => imB (dsR ts) (gB [x]) p && gB [z] p)) 27600000) := Lib.hid ((PSt.op (fun a b => a && b) (im_st DPK.out IDS.out) GST.out).mono (by decide))
 have S3 : Hid (PSt 220 (psF (preB (dsR ts) (fun p => imB (dsR ts) (gB [x]) p && gB [z] p))) 4000000) := Lib.hid (PDS2.out _ D2.out)
 go_wp2_with fail
 refine (PreP_ok H25.out.rep H25.out.qk H25.out.gl H25.out.off (List.Mem.tail _ (List.Mem.tail _ (List.Mem.tail _ (List.Mem.tail _ B19)))) B0 DPK.out (PD2.out _ D2.out) S2.out (by omega)).mono ?_
 intro e y26 o
 obtain ⟨r18, M26, L26, rfl, _, f⟩ := H25.out.step o
 have H26 := Lib.hid ((f).mono (c' := 2790000000000) (by omega))
 clear o f
 go_wp2_with fail
 refine (NotQ H26.out.rep H26.out.qk B0 S3.out (by omega)).mono ?_
 intro e y27 o
 obtain ⟨r19, M27, L27, rfl, _, f⟩ := H26.out.step o
 have H27 := Lib.hid ((f.cong (G := psF (fun p => !preB (dsR ts) (fun p => imB (dsR ts) (gB [x]) p && gB [z] p) p)) (fun a => rfl)).mono (c' := 2791000000000) (by omega))
 clear o f
 have EI : Hid (∀ a, (psF (fun p => gB [x] p && preB (dsR ts) (gB [z]) p) a && psF (fun p => !preB (dsR ts) (fun p => imB (dsR ts) (gB [x]) p && gB [z] p) p) a) = false) := Lib.hid (fun a => inside HTS.out.2 (gB [x]) (gB [z]) (pkA_ok false a))
 go_wp2_with fail
 refine (AndQ H27.out.rep H27.out.qk B4 B0 (s := 1) ((PSt.const 220 false).congr (fun a => EI.out a)) (by omega)).mono ?_
 intro e y28 o
 obtain ⟨r20, M28, L28, rfl, _, f⟩ := H27.out.step o
 have H28 := Lib.hid ((f).mono (c' := 2792000000000) (by omega))
 clear o f
 have e20 : r20 = 0 := H28.out.qk.eq B0 (List.Mem.tail _ (List.Mem.tail _ B19)) (fun a => EI.out a)
 subst e20
 have KF := Lib.hid (H28.out.kpNo KW.out LO2.out)
 go_wp2_with fail
 go_ret
 exact ⟨rfl, KF.out⟩

end Go.Proofs.YtdgnbbmgcgfibaaGreatDoor
