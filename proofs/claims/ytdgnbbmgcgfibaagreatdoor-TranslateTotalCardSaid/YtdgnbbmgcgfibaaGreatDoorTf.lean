/-
 Walks: the law TranslateFailures (printed by gen_tf.py).
-/
import Derived.Test.YtdgnbbmgcgfibaaGreatDoorWg
import Derived.Test.YtdgnbbmgcgfibaaGreatDoorKb
namespace Go.Proofs.YtdgnbbmgcgfibaaGreatDoor
open Go.RowKit

theorem PSt.ps {Y : Pkt → Bool} {s : Nat} (h : PSt 220 (pnF Y) s) : PSt 220 (psF Y) s := fun M hn hp => by
 obtain ⟨st, h1, h2⟩ := h M hn hp
 refine ⟨fun d a => st (12 + 2 * nb false d) (fun v => a (xch v)), fun d a => h1 _ _, fun d a a' e b => ?_⟩
 have back : ∀ u, xch (hvar u true) = hvar u false := fun u => by
  unfold xch hvar
  simp only [if_true, Bool.false_eq_true, if_false]
  rw [if_neg (by omega), if_neg (by omega)]
  omega
 have key : ∀ a : Nat → Bool, pkA true (M.mix (12 + 2 * nb false d) (fun v => a (xch v)) (fun v => b (xch v))) = pkA false (M.mix d a b) := fun a => (pkA_iff (pkA_ok _ _) true _).2 (fun u hu => by
  rw [pkA_bit _ _ hu]
  have l1 := hp (hvar u true) (by rw [hn]; exact hvar_lt hu _)
  have l2 := hp (hvar u false) (by rw [hn]; exact hvar_lt hu _)
  unfold Mgr.mix
  rw [l1, l2]
  dsimp only
  rw [back]
  have i1 := nb_iff false d hu
  have i2 : hvar u true < 12 + 2 * nb false d ↔ u < nb false d := by
   have : hvar u true = 12 + 2 * u + 1 := rfl
   omega
  by_cases hd : hvar u false < d
  ·rw [if_pos hd, if_pos (i2.2 (i1.1 hd))]
  ·rw [if_neg hd, if_neg (fun q => hd (i1.2 (i2.1 q)))])
 have := h2 _ _ _ e (fun v => b (xch v))
 unfold pnF at this
 rw [key, key] at this
 exact this
theorem im_st {F : Bfn} {R : Pkt → Pkt → Prop} {X : Pkt → Bool} {s : Nat} (hF : ∀ w, F w = true ↔ R (pkA false w) (pkA true w)) (hs : PSt 220 (exQ (hvK false 104) (fun a => F a && psF X a)) s) : PSt 220 (psF (imB R X)) s := by
 rw [ex_im hF] at hs
 exact PSt.ps hs
theorem SB_le {n : Nat} (h : n ≤ 4) : SB n ≤ 1107296256 := by
 rcases (show n = 0 ∨ n = 1 ∨ n = 2 ∨ n = 3 ∨ n = 4 by omega) with rfl | rfl | rfl | rfl | rfl <;> decide
section
variable {ac : ByteArray → List Ru} {ts : List Tr}
theorem imS_N (hok : ∀ t, t ∈ ts → t.ok) (hac : ∀ t, t ∈ ts → (ac t.nm).length ≤ 4) (h4 : ts.length ≤ 4) (x : Ru) (M : Mgr) (hn : M.n = 220) (hp : M.Plain) : Listed (M.ProF (hvK false 104) (fun a => srcF (ts.map (Tr.ent ac)) a && psF (gB [x]) a)) 361300000000 :=
 (img_listed hok hac h4 (srS_img hok) M hn hp).mono (fun _ h => h) NI1
theorem imS_s (hok : ∀ t, t ∈ ts → t.ok) (hac : ∀ t, t ∈ ts → (ac t.nm).length ≤ 4) (h4 : ts.length ≤ 4) (x : Ru) : PSt 220 (exQ (hvK false 104) (fun a => srcF (ts.map (Tr.ent ac)) a && psF (gB [x]) a)) 151400000 :=
 (img_st hok hac h4 (srS_img hok)).mono TB1
theorem preS_N (hok : ∀ t, t ∈ ts → t.ok) (hac : ∀ t, t ∈ ts → (ac t.nm).length ≤ 4) (h4 : ts.length ≤ 4) (x : Ru) (M : Mgr) (hn : M.n = 220) (hp : M.Plain) : Listed (M.ProF (hvK true 104) (fun a => srcF (ts.map (Tr.ent ac)) a && rnF xch (psF (gB [x])) a)) 88700000000 :=
 (pre_listed hok hac h4 (srS_pre hok) M hn hp).mono (fun _ h => h) NP1
theorem preS_s (hok : ∀ t, t ∈ ts → t.ok) (hac : ∀ t, t ∈ ts → (ac t.nm).length ≤ 4) (h4 : ts.length ≤ 4) (x : Ru) : PSt 220 (psF (preB (srR ac ts) (gB [x]))) 20500000 := by
 have := (pre_st hok hac h4 (gs := [x]) (srS_pre hok)).mono QB1
 rw [ex_pre (R := srR ac ts) (src_pk ac ts hok)] at this
 exact this
end
theorem NatAt.to {w w' : World} {p : Nat} {L L' : Lay} {cs : Array Value} {ts : List Tr} (h : NatAt w p L cs ts) (k : Kp (L.at p) w w') (f : Fresh (L.at p) (L'.at p) w) : NatAt w' p L' cs ts := by
 obtain ⟨ao, cp, h6, h1, h2, h3⟩ := h
 refine ⟨ao, cp, h6, h1, h2, ?_⟩
 rcases h3 with h0 | ⟨g, o, e, hg, hl, hc⟩
 ·exact .inl h0
 refine .inr ⟨g, o, e, Nat.lt_of_lt_of_le hg k.size, fun h => ?_, fun j t hj => ?_⟩
 ·rcases f _ h with h | h
  ·exact hl h
  ·omega
 have := hc j t hj
 have kk : ∀ z, w'.cell? ⟨g, z, none⟩ = w.cell? ⟨g, z, none⟩ := fun z => k.cell (a := ⟨g, z, none⟩) hg hl
 unfold TrAt at this ⊢
 simp only [kk]
 exact this
section
variable {x a0 a1 a2 a3 a4 a5 a6 a7 a8 a9 a10 a11 a12 a13 a14 a15 a16 a17 a18 a19 : Int × Bfn} {l : List (Int × Bfn)}
theorem B0 : x ∈ x :: l := .head _
theorem B1 : x ∈ a0 :: x :: l := .tail _ B0
theorem B2 : x ∈ a0 :: a1 :: x :: l := .tail _ B1
theorem B3 : x ∈ a0 :: a1 :: a2 :: x :: l := .tail _ B2
theorem B4 : x ∈ a0 :: a1 :: a2 :: a3 :: x :: l := .tail _ B3
theorem B5 : x ∈ a0 :: a1 :: a2 :: a3 :: a4 :: x :: l := .tail _ B4
theorem B6 : x ∈ a0 :: a1 :: a2 :: a3 :: a4 :: a5 :: x :: l := .tail _ B5
theorem B7 : x ∈ a0 :: a1 :: a2 :: a3 :: a4 :: a5 :: a6 :: x :: l := .tail _ B6
theorem B8 : x ∈ a0 :: a1 :: a2 :: a3 :: a4 :: a5 :: a6 :: a7 :: x :: l := .tail _ B7
theorem B9 : x ∈ a0 :: a1 :: a2 :: a3 :: a4 :: a5 :: a6 :: a7 :: a8 :: x :: l := .tail _ B8
theorem B10 : x ∈ a0 :: a1 :: a2 :: a3 :: a4 :: a5 :: a6 :: a7 :: a8 :: a9 :: x :: l := .tail _ B9
theorem B11 : x ∈ a0 :: a1 :: a2 :: a3 :: a4 :: a5 :: a6 :: a7 :: a8 :: a9 :: a10 :: x :: l := .tail _ B10
theorem B12 : x ∈ a0 :: a1 :: a2 :: a3 :: a4 :: a5 :: a6 :: a7 :: a8 :: a9 :: a10 :: a11 :: x :: l := .tail _ B11
theorem B13 : x ∈ a0 :: a1 :: a2 :: a3 :: a4 :: a5 :: a6 :: a7 :: a8 :: a9 :: a10 :: a11 :: a12 :: x :: l := .tail _ B12
theorem B14 : x ∈ a0 :: a1 :: a2 :: a3 :: a4 :: a5 :: a6 :: a7 :: a8 :: a9 :: a10 :: a11 :: a12 :: a13 :: x :: l := .tail _ B13
theorem B15 : x ∈ a0 :: a1 :: a2 :: a3 :: a4 :: a5 :: a6 :: a7 :: a8 :: a9 :: a10 :: a11 :: a12 :: a13 :: a14 :: x :: l := .tail _ B14
theorem B16 : x ∈ a0 :: a1 :: a2 :: a3 :: a4 :: a5 :: a6 :: a7 :: a8 :: a9 :: a10 :: a11 :: a12 :: a13 :: a14 :: a15 :: x :: l := .tail _ B15
theorem B17 : x ∈ a0 :: a1 :: a2 :: a3 :: a4 :: a5 :: a6 :: a7 :: a8 :: a9 :: a10 :: a11 :: a12 :: a13 :: a14 :: a15 :: a16 :: x :: l := .tail _ B16
theorem B18 : x ∈ a0 :: a1 :: a2 :: a3 :: a4 :: a5 :: a6 :: a7 :: a8 :: a9 :: a10 :: a11 :: a12 :: a13 :: a14 :: a15 :: a16 :: a17 :: x :: l := .tail _ B17
theorem B19 : x ∈ a0 :: a1 :: a2 :: a3 :: a4 :: a5 :: a6 :: a7 :: a8 :: a9 :: a10 :: a11 :: a12 :: a13 :: a14 :: a15 :: a16 :: a17 :: a18 :: x :: l := .tail _ B18
end
structure TfB (b : Nat) (cs : Array Value) (m : Mt) (y : World) : Prop where
 r : y.heap[b]? = some (.cells cs 41 (0, 0))
 q : MtAt y (b + 1) m
theorem TfB.kp {A : Nat → Prop} {b : Nat} {cs : Array Value} {m : Mt} {y y' : World} (h : TfB b cs m y) (k : Kp A y y') (a0 : ¬ A b) (a1 : ¬ A (b + 1)) : TfB b cs m y' :=
 ⟨(k.block _ (heap_lt h.r) a0).trans h.r, h.q.kp k a1⟩
theorem TfB.no {b : Nat} {cs : Array Value} {m : Mt} {y y' : World} (h : TfB b cs m y) (k : Kp No y y') : TfB b cs m y' := h.kp k (fun h => h) (fun h => h)
set_option maxRecDepth 1000000 in
set_option maxHeartbeats 16000000 in
theorem TranslateFailures_walk (cs : Array Value) (m : Mt) (link : Int) (h32 : m.in32) {w : World} (ok : RtC w cs) (g : Gl w) :
  Calls Tryz.prog 4 #[.agg cs, mtV m, .int .i64 link] w fun e w' => e = .returned (.bool true) ∧ Kp No w w' := by
 have h0 := heap_alloc_new w (.cells cs 41)
 have z0 : (w.alloc (.cells cs 41)).heap.size = w.heap.size + 1 := by simp
 have k0 : Kp No w (w.alloc (.cells cs 41)) := Kp.alloc _
 have VM := Lib.hid (fun (y : World) => ValidMatch_ok m y)
 have OK0 := Lib.hid ok
 have CSZ := Lib.hid ok.sz
 have G0 := Lib.hid g
 have H32 := Lib.hid h32
 obtain ⟨b2, hb2⟩ : ∃ b, mtB m = b := ⟨_, rfl⟩
 rw [hb2] at VM
 have HB2 := Lib.hid hb2
 clear ok g hb2 h32
 unfold mtV at VM ⊢
 go_enter Tryz.func4, Tryz.ntmps4
 go_upto_region 1 with fail
 generalize w.alloc (.cells cs 41) = X0 at *
 have h1 := MtAt.new X0 m
 have k1 := Kp.alloc (w := X0) (.cells #[.int .u32 (m.sa : Int), .int .i64 m.sl, .int .u32 (m.da : Int), .int .i64 m.dl, .int .i64 m.pr, .int .i64 m.s0, .int .i64 m.s1, .int .i64 m.d0, .int .i64 m.d1] 48)
 rw [z0] at h1
 generalize X0.alloc (.cells #[.int .u32 (m.sa : Int), .int .i64 m.sl, .int .u32 (m.da : Int), .int .i64 m.dl, .int .i64 m.pr, .int .i64 m.s0, .int .i64 m.s1, .int .i64 m.d0, .int .i64 m.d1] 48) = X at *
 have R0 : Hid (TfB w.heap.size cs m X) := Lib.hid ⟨(k1.block _ (heap_lt h0) (fun h => h)).trans h0, h1⟩
 have K0 := Lib.hid (k0.trans_no k1)
 have AW := Lib.hid (tawake_ok (G0.out.no K0.out))
 clear h0 h1 k0 k1 z0
 go_wp2_with fail
 refine AW.out.mono ?_
 rintro e w1 ⟨rfl, k1⟩
 have K1 := Lib.hid (K0.out.trans_no k1)
 have R1 := Lib.hid (R0.out.no k1)
 clear k1 AW K0 R0
 have OK1 := Lib.hid (OK0.out.no K1.out)
 have SM := Lib.hid (Small_any cs w1 OK1.out)
 go_wp2_with (first | (refine wpList_load_rt rfl _ rfl w.heap.size rfl cs CSZ.out R1.out.r ?_))
 refine SM.out.mono ?_
 rintro e w2 ⟨b, rfl, k2, hb⟩
 have HB := Lib.hid hb
 have K12 := Lib.hid k2
 have K2 := Lib.hid (K1.out.trans_no k2)
 have R2 := Lib.hid (R1.out.no k2)
 clear hb k2 SM
 cases b
 ·go_wp2
  go_ret
  exact ⟨rfl, K2.out⟩
 obtain ⟨c0, c1, c2, c3, c4, c5, c6, c7, c8⟩ := R2.out.q.c
 go_wp2_with fail
 refine (VM.out _).mono ?_
 rintro e w3 ⟨rfl, k3⟩
 have K13 := Lib.hid (K12.out.trans_no k3)
 have K3 := Lib.hid (K2.out.trans_no k3)
 have R3 := Lib.hid (R2.out.no k3)
 clear k3 c0 c1 c2 c3 c4 c5 c6 c7 c8 VM
 cases b2
 ·go_wp2
  go_ret
  exact ⟨rfl, K3.out⟩
 obtain ⟨ts, acs, hts, hok, hle, hro, hat⟩ := router_lists OK1.out (HB.out (by first | rfl | trivial))
 have HTS := Lib.hid (And.intro hts hok)
 have HAT := Lib.hid hat
 have HLE := Lib.hid hle
 have HRO := Lib.hid hro
 have NEW := Lib.hid (HNew_ok w3)
 clear hts hok hle hro hat
 go_wp2_with fail
 refine NEW.out.mono ?_
 rintro e W ⟨pm, L, rfl, RR, k4, o4⟩
 have H0 := Lib.hid (hf_new G0.out K3.out RR k4 o4)
 have LO : Hid (∀ z, L.at pm z → w3.heap.size ≤ z) := Lib.hid o4
 have RW := Lib.hid (R3.out.no k4)
 have KW := Lib.hid (K3.out.trans_no k4)
 have NAL := Lib.hid (HAT.out W pm L (K13.out.trans_no k4) (fun k hk h => by have := o4 k h; have := K13.out.size; omega))
 have NL : Hid (¬ L.at pm w.heap.size ∧ ¬ L.at pm (w.heap.size + 1)) := Lib.hid (by
  have r0 := heap_lt R3.out.r
  have r1 := heap_lt R3.out.q
  refine ⟨fun h => ?_, fun h => ?_⟩ <;> (have := LO.out _ h; omega))
 have LO2 : Hid (∀ z, L.at pm z → w.heap.size ≤ z) := Lib.hid (fun z h => by have := LO.out z h; have := K3.out.size; omega)
 clear RR k4 o4 NEW K1 K2 R1 R2 R3 HAT LO K12 K13
 have RF : Hid (∀ y, Kp (L.at pm) W y → TfB w.heap.size cs m y) := Lib.hid (fun y k => RW.out.kp k NL.out.1 NL.out.2)
 have NF : Hid (∀ y L', Kp (L.at pm) W y → Fresh (L.at pm) (L'.at pm) W → NatAt y pm L' cs ts ∧ AcAt y pm L' cs acs) := Lib.hid (fun y L' k f => ⟨NAL.out.1.to k f, NAL.out.2.of k f⟩)
 clear NAL RW
 have HAC : Hid (∀ t, t ∈ ts → (acG acs t.nm).length ≤ 4) := Lib.hid (fun t _ => acG_le HLE.out)
 have hp12 := pick_lt link (n := 12) (by omega)
 have PI := Lib.hid (fun (y : World) => Pick_ok link 12 y (by omega) (by omega))
 generalize pick link 12 = v at *
 have HV := Lib.hid hp12
 go_wp2_with fail
 refine (PI.out _).mono ?_
 rintro e w5 ⟨rfl, rfl⟩
 clear PI
 have CC1 := Lib.hid (VarQ H0.out.rep H0.out.qk (v := v) (by have := HV.out; omega) (by omega))
 go_wp2_with fail
 refine CC1.out.mono ?_
 intro e y1 o
 obtain ⟨rv, M1, L1, rfl, _, f⟩ := H0.out.step o
 have H1 := Lib.hid ((f).mono (c' := 10) (by omega))
 clear o f CC1
 obtain ⟨c0, c1, c2, c3, c4, c5, c6, c7, c8⟩ := (RF.out _ H1.out.sd.kp).q.c
 have CC2 := Lib.hid (Match_ok m H32.out HB2.out false H1.out.rep H1.out.qk H1.out.gl H1.out.off (by omega))
 rw [mt_ps HB2.out, show mtV m = .agg #[.int .u32 (m.sa : Int), .int .i64 m.sl, .int .u32 (m.da : Int), .int .i64 m.dl, .int .i64 m.pr, .int .i64 m.s0, .int .i64 m.s1, .int .i64 m.d0, .int .i64 m.d1] from rfl] at CC2
 go_wp2_with fail
 refine CC2.out.mono ?_
 intro e y2 o
 obtain ⟨rf, M2, L2, rfl, _, f⟩ := H1.out.step o
 have H2 := Lib.hid ((f).mono (c' := 200000000) (by omega))
 clear o f CC2
 clear c0 c1 c2 c3 c4 c5 c6 c7 c8
 have SN := (NF.out _ _ H2.out.sd.kp H2.out.sd.fr)
 have SRC := Lib.hid (Source_ok cs CSZ.out ts acs HLE.out HRO.out HTS.out.1 HTS.out.2 H2.out.rep H2.out.qk H2.out.gl H2.out.off SN.1 SN.2 (by omega))
 clear SN
 obtain ⟨S, hS⟩ : ∃ S, S = srcF (ts.map (Tr.ent (acG acs))) := ⟨_, rfl⟩
 have RR0 := (RF.out _ H2.out.sd.kp).r
 rw [← hS] at SRC
 have SPK : Hid (∀ w, S w = true ↔ srR (acG acs) ts (pkA false w) (pkA true w)) := Lib.hid (fun w => by rw [hS]; exact src_pk (acG acs) ts HTS.out.2 w)
 have SRD : Hid (Rd 12 220 S) := Lib.hid (by rw [hS]; exact src_rd12 _)
 have SST : Hid (PSt 220 S 1107296256) := Lib.hid (by
  rw [hS]
  refine (src_st _ (fun e he => ?_)).mono (by rw [List.length_map]; exact SB_le HTS.out.1)
  obtain ⟨t, ht, rfl⟩ := List.mem_map.1 he
  exact Tr.ent_ok (HTS.out.2 t ht) (HAC.out t ht))
 obtain ⟨x, hx⟩ : ∃ x, x = muR m := ⟨_, rfl⟩
 rw [← hx] at H2 SRC
 have IMN : Hid (∀ M : Mgr, M.n = 220 → M.Plain → Listed (M.ProF (hvK false 104) (fun a => S a && psF (gB [x]) a)) 361300000000) := Lib.hid (by rw [hS]; exact imS_N HTS.out.2 HAC.out HTS.out.1 x)
 have IMS : Hid (PSt 220 (exQ (hvK false 104) (fun a => S a && psF (gB [x]) a)) 151400000) := Lib.hid (by rw [hS]; exact imS_s HTS.out.2 HAC.out HTS.out.1 x)
 have PRN : Hid (∀ M : Mgr, M.n = 220 → M.Plain → Listed (M.ProF (hvK true 104) (fun a => S a && rnF xch (psF (gB [x])) a)) 88700000000) := Lib.hid (by rw [hS]; exact preS_N HTS.out.2 HAC.out HTS.out.1 x)
 have PRS : Hid (PSt 220 (psF (preB (srR (acG acs) ts) (gB [x]))) 20500000) := Lib.hid (preS_s HTS.out.2 HAC.out HTS.out.1 x)
 have FST : Hid (PSt 220 (psF (gB [x])) 230) := Lib.hid (by rw [hx, ← mt_ps HB2.out]; exact mtF_few m false)
 have IST := Lib.hid (im_st SPK.out IMS.out)
 clear hS hx
 go_wp2_with (first | (refine wpList_load_rt rfl _ rfl w.heap.size rfl cs CSZ.out RR0 ?_))
 refine SRC.out.mono ?_
 intro e y3 o
 obtain ⟨rs, M3, L3, rfl, _, f⟩ := H2.out.step o
 have H3 := Lib.hid (f.mono (c' := 260200000000) (by omega))
 clear o f SRC RR0
 generalize srR (acG acs) ts = R at *
 generalize gB [x] = X at *
 have CC4 := Lib.hid (AndQ H3.out.rep H3.out.qk B2 B1 (PSt.link HV.out FST.out) (by omega))
 go_wp2_with fail
 refine CC4.out.mono ?_
 intro e y4 o
 obtain ⟨r1, M4, L4, rfl, _, f⟩ := H3.out.step o
 have H4 := Lib.hid ((f.cong (G := fun a => a v && psF X a) (fun a => rfl)).mono (c' := 260300000000) (by omega))
 clear o f CC4
 have CC5 := Lib.hid (ImgV_ok HV.out H4.out.rep H4.out.qk H4.out.gl H4.out.off B1 B0 SRD.out SPK.out IMN.out IMS.out (by omega))
 go_wp2_with fail
 refine CC5.out.mono ?_
 intro e y5 o
 obtain ⟨r2, M5, L5, rfl, _, f⟩ := H4.out.step o
 have H5 := Lib.hid ((f).mono (c' := 960000000000) (by omega))
 clear o f CC5
 have CC6 := Lib.hid (ImgP_ok H5.out.rep H5.out.qk H5.out.gl H5.out.off B2 B3 SPK.out IMN.out IMS.out (by omega))
 go_wp2_with fail
 refine CC6.out.mono ?_
 intro e y6 o
 obtain ⟨r3, M6, L6, rfl, _, f⟩ := H5.out.step o
 have H6 := Lib.hid ((f).mono (c' := 1490000000000) (by omega))
 clear o f CC6
 have CC7 := Lib.hid (AndQ H6.out.rep H6.out.qk B5 B0 (PSt.link HV.out IST.out) (by omega))
 go_wp2_with fail
 refine CC7.out.mono ?_
 intro e y7 o
 obtain ⟨r4, M7, L7, rfl, _, f⟩ := H6.out.step o
 have H7 := Lib.hid ((f.cong (G := fun a => a v && psF (imB R X) a) (fun a => rfl)).mono (c' := 1630000000000) (by omega))
 clear o f CC7
 have e1 : r2 = r4 := H7.out.qk.eq B2 B0 (fun a => rfl)
 subst e1
 have CC8 := Lib.hid (AndQ H7.out.rep H7.out.qk B6 B4 (PSt.link HV.out SST.out) (by omega))
 go_wp2_with fail
 refine CC8.out.mono ?_
 intro e y8 o
 obtain ⟨r5, M8, L8, rfl, _, f⟩ := H7.out.step o
 have H8 := Lib.hid ((f.cong (G := fun a => a v && S a) (fun a => rfl)).mono (c' := 2130000000000) (by omega))
 clear o f CC8
 have CC9 := Lib.hid (PreV_ok HV.out H8.out.rep H8.out.qk H8.out.gl H8.out.off B0 B6 SRD.out SPK.out PRN.out FST.out (by omega))
 go_wp2_with fail
 refine CC9.out.mono ?_
 intro e y9 o
 obtain ⟨r6, M9, L9, rfl, _, f⟩ := H8.out.step o
 have H9 := Lib.hid ((f).mono (c' := 2230000000000) (by omega))
 clear o f CC9
 have CC10 := Lib.hid (PreP_ok H9.out.rep H9.out.qk H9.out.gl H9.out.off B6 B7 SPK.out PRN.out FST.out (by omega))
 go_wp2_with fail
 refine CC10.out.mono ?_
 intro e y10 o
 obtain ⟨r7, M10, L10, rfl, _, f⟩ := H9.out.step o
 have H10 := Lib.hid ((f).mono (c' := 2330000000000) (by omega))
 clear o f CC10
 have CC11 := Lib.hid (AndQ H10.out.rep H10.out.qk B9 B0 (PSt.link HV.out PRS.out) (by omega))
 go_wp2_with fail
 refine CC11.out.mono ?_
 intro e y11 o
 obtain ⟨r8, M11, L11, rfl, _, f⟩ := H10.out.step o
 have H11 := Lib.hid ((f.cong (G := fun a => a v && psF (preB R X) a) (fun a => rfl)).mono (c' := 2350000000000) (by omega))
 clear o f CC11
 have e2 : r6 = r8 := H11.out.qk.eq B2 B0 (fun a => rfl)
 subst e2
 have KF := Lib.hid (H11.out.kpNo KW.out LO2.out)
 go_wp2_with fail
 go_ret
 exact ⟨rfl, KF.out⟩

end Go.Proofs.YtdgnbbmgcgfibaaGreatDoor
