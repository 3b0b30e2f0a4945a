/-
  Walks: the law FailureCounts.
-/
import Derived.Test.YtgglkldoclejaaaDoorFp
import Derived.Deep.CutBlock
import Derived.Deep.RegionHeld3
import Derived.Deep.QuietTactic
import Derived.BigQuiet
namespace Go.Proofs.YtgglkldoclejaaaDoor
open Go.RowKit

/-- 'append' of a whole list, behind a guard that says yes. -/
theorem wpList_append_srcG {P : Program} {w : World} {ops : Array Oper} {rest : List Oper} {o : Oper} {a : Act} {Q : Exit → Act → World → Prop} (hgd : Region.wanted o (yielded ops a.tmps) = true) (s x : Operand) {t : TypeId}
    (ho : o.op = .call { callee := .builtin .append, args := #[s, x], argTypes := #[t, t] })
    {base : Nat} {e : TypeId} {i : TypeInfo} {z : Value} {size bytes : Nat} (ht : P.underlying t = some (.slice e)) (hi : P.info? e = some i) (hz : i.zero = some z)
    (hsize : i.size = size) (hby : i.bytes = bytes) (hzs : z.cells.size = size) (hsz : 0 < size) {v u : Value} {n m : Nat} {xs news : List Value} (hs : a.eval s = v) (hown : w.ownsRow base e size v n xs) (hx : a.eval x = u) (hsrc : SrcAt w u size m news)
    (h1 : ∀ x ∈ news, x.oneCell' = true) (h63 : n + m ≤ maxLen) (hbytes : (n + m) * bytes ≤ 140737488355328) (hbase : base ≤ w.heap.size)
    (h : ∀ v' w', w'.ownsRow base e size v' (n + m) (xs ++ news) → w.grownBy w' v.ownBlock → (v'.ownBlock = v.ownBlock ∨ v'.ownBlock = some w.heap.size) → wpList P ops Q rest (a.put o.dst v') w') : wpList P ops Q (o :: rest) a w :=
  BigFrame.wpList_want hgd fun _ hK => wp_append_src ho ht hi hz hsize hby hzs hsz hs hown hx hsrc h1 h63 hbytes hbase fun v' w' h2 h3 h4 => hK _ _ (h v' w' h2 h3 h4)

/-- The state of the loop over the links. -/
def FcR (w : World) (xs : List Nat) (cl : Int) (b0 : Bool) (gk : Nat) (s14 s15 : Value) (wr : World) : Prop :=
  ∃ i, i + gk = xs.length ∧ s15 = .int .i64 (i : Int) ∧ s14 = .bool (b0 && (xs.take i).all fun v => decide ((v : Int) < cl)) ∧ Kp No w wr
theorem allT_succ (xs : List Nat) (cl : Int) {i : Nat} (hi : i < xs.length) : ((xs.take (i + 1)).all fun v => decide ((v : Int) < cl)) = (((xs.take i).all fun v => decide ((v : Int) < cl)) && decide ((xs.getD i 0 : Int) < cl)) := by
  have e : xs.take (i + 1) = xs.take i ++ [xs.getD i 0] := by rw [List.take_succ_eq_append_getElem hi]; simp [hi]
  rw [e, List.all_append]; simp

set_option maxRecDepth 100000 in
set_option maxHeartbeats 8000000 in
theorem FailureCounts_walk (links k : Int) (a b : Nat) (ha : a < 65536) (hb : b < 65536) {w : World} (g : Gl w) :
    Calls Tryd.prog 11 #[.int .i64 links, .int .i64 k, .int .u16 (a : Int), .int .u16 (b : Int)] w fun e w' => e = .returned (.bool true) ∧ Kp No w w' := by
  obtain ⟨i0, hi0, hz0, hz1, hz2⟩ := info_parts info_int
  have GLW := Lib.hid g
  have AW := Lib.hid (fawake_ok g)
  have DA := Lib.hid (fun (y : World) => down_ok a ha y)
  have DB := Lib.hid (fun (y : World) => down_ok b hb y)
  have MF := Lib.hid (most_fas links k a)
  have XF := Lib.hid (exact_fas a b)
  have CL := Lib.hid (fun (y : World) => clamp3_ok links 0 12 y)
  have OKB := Lib.hid (okL_dw b)
  have hxl := dwL_len a
  have hyl := dwL_len b
  obtain ⟨xs, hxs⟩ : ∃ xs, dwL a = xs := ⟨_, rfl⟩
  obtain ⟨ys, hys⟩ : ∃ ys, dwL b = ys := ⟨_, rfl⟩
  rw [hxs] at DA MF XF hxl
  rw [hys] at DB XF OKB hyl
  obtain ⟨cl, hcl⟩ : ∃ cl, clamp3 links 0 12 = cl := ⟨_, rfl⟩
  rw [hcl] at MF CL
  obtain ⟨b0, hb0⟩ : ∃ b0, decide ((xs.length : Int) ≤ max k (-1)) = b0 := ⟨_, rfl⟩
  rw [hb0] at MF
  have HB0 := Lib.hid hb0
  clear g ha hb hxs hys hcl hb0
  go_enter Tryd.func11, Tryd.ntmps11
  go_wp2_with fail
  refine AW.out.mono ?_
  rintro e w1 ⟨rfl, k1⟩
  have G1 := Lib.hid (GLW.out.no k1)
  have K1 := Lib.hid k1
  have NEW := Lib.hid (HNew_ok w1)
  clear k1 AW
  go_wp2_with fail
  refine NEW.out.mono ?_
  rintro e w2 ⟨pm, L2, rfl, R2, k2, o2⟩
  have H2 := Lib.hid (hf_new G1.out (Kp.refl No w1) R2 k2 o2)
  have K2 := Lib.hid (K1.out.trans_no k2)
  have O2 : Hid (∀ x, L2.at pm x → w.heap.size ≤ x) := Lib.hid (fun x hx => by have := o2 x hx; have := K1.out.size; omega)
  clear R2 k2 o2 NEW
  go_wp2_with fail
  refine (DA.out _).mono ?_
  rintro e w3 ⟨xv, rfl, xrow, k3⟩
  have XR := Lib.hid xrow
  have K3 := Lib.hid k3
  clear xrow k3 DA
  go_wp2_with fail
  refine (DB.out _).mono ?_
  rintro e w4 ⟨yv, rfl, yrow, k4⟩
  have YR := Lib.hid yrow
  have X4 := Lib.hid (ownsRow_kp XR.out k4 (fun _ _ z => z))
  have K4 := Lib.hid k4
  obtain ⟨ax, cx, rfl⟩ := row_form XR.out
  obtain ⟨ay, cy, rfl⟩ := row_form YR.out
  have EN : Hid (Calls Tryd.prog 22 #[.slice ax xs.length cx, .agg #[.int .u32 0, .int .u32 0, .int .i64 0, .int .i64 0, .int .i64 0], .agg #[.int .u32 0, .int .u32 0, .int .i64 0, .int .i64 0, .int .i64 0]] w4 (EncPost w4 (encF (dnF (xs.map Int.ofNat)) pkz pkz))) := Lib.hid (Encode_ok (xs.map Int.ofNat) pkz pkz pkz_ok.in32 pkz_ok.in32 (H2.out.gl.no (K3.out.trans_no k4)) (by rw [List.length_map, nat_int_map]; exact SrcAt.of_row X4.out) (by rw [List.length_map]; omega))
  clear yrow k4 DB
  go_wp2_with fail
  refine Calls.mono EN.out ?_
  rintro e w5 ⟨ga, rfl, arow, k5⟩
  have k25 : Kp No w2 w5 := (K3.out.trans_no K4.out).trans_no k5
  have H5 : Hid (Hf w5 pm L2 220 2 w5 (Mgr.new 220) L2 []) := Lib.hid (H2.out.no k25).rebase
  have KW5 := Lib.hid (K2.out.trans_no k25)
  have LT2 : Hid (∀ x, L2.at pm x → x < w2.heap.size) := Lib.hid (fun x hx => H2.out.rep.lt x hx)
  have XROW : Hid (∀ y, Kp (L2.at pm) w5 y → SrcAt y (.slice ax xs.length cx) 1 xs.length (xs.map natV)) := Lib.hid (fun y ky => SrcAt.of_row (ownsRow_kp (ownsRow_kp X4.out k5 (fun _ _ z => z)) ky (fun x hx h => by have := (XR.out.lt x hx).1; have := LT2.out x h; omega)))
  have YROW : Hid (∀ y, Kp (L2.at pm) w5 y → SrcAt y (.slice ay ys.length cy) 1 ys.length (ys.map natV)) := Lib.hid (fun y ky => SrcAt.of_row (ownsRow_kp (ownsRow_kp YR.out k5 (fun _ _ z => z)) ky (fun x hx h => by have := (YR.out.lt x hx).1; have := LT2.out x h; have := K3.out.size; omega)))
  have AROW : Hid (∀ y, Kp (L2.at pm) w5 y → Bools y (.slice (some ⟨ga, 0, none⟩) 220 220) (gL (encF (dnF (xs.map Int.ofNat)) pkz pkz))) := Lib.hid (fun y ky => bools_row (ownsRow_kp arow ky (fun x hx h => by have := (arow.lt x hx).1; have := LT2.out x h; have := K3.out.size; have := K4.out.size; omega)))
  have AM := Lib.hid (AtMost_any links k H5.out.rep H5.out.qk H5.out.gl H5.out.off (by omega))
  clear arow k5 k25 X4 XR YR K3 K4 EN H2 LT2
  go_wp2_with fail
  refine AM.out.mono ?_
  intro e w6 h6
  obtain ⟨r6, M6, L6, rfl, _, f6⟩ := H5.out.step h6
  have H6 := Lib.hid f6
  clear h6 f6 AM H5
  go_upto_region 7 with fail
  go_cut [14] (fun s x => s = .bool b0 ∧ x = w6)
  case first =>
    by_cases hk : k < -1
    · have hm : max k (-1) = -1 := by omega
      have hk' : (-1 : Int) > k := hk
      have hx : ¬ (xs.length : Int) ≤ -1 := by omega
      have hb : b0 = false := by rw [← HB0.out, hm]; exact decide_eq_false hx
      subst hb
      go_wp2_with fail
      go_meet
      case rel => exact ⟨by simp, rfl⟩
    · have hm : max k (-1) = k := by omega
      have HB1 := HB0.out
      rw [hm] at HB1
      have hk2 : (-1 : Int) ≤ k := by omega
      have HB2 := Lib.hid HB1
      clear HB1
      go_wp2_with fail
      go_meet
      case rel => exact ⟨by first | rfl | (rw [← HB2.out]) | trace_state, rfl⟩
  case rest =>
  obtain ⟨hs, hw⟩ := hcut
  replace hw := hw.symm
  subst hs hw
  have J0 : Hid (FcR w6 xs cl b0 xs.length (.bool b0) (.int .i64 0) w6) := Lib.hid ⟨0, by omega, rfl, by simp, Kp.refl _ _⟩
  have EX := Lib.hid (fun (y : World) (ky : Kp No w6 y) => Exactly_ok (ys.map Int.ofNat) (by rw [List.length_map]; omega) OKB.out ((H6.out.no ky).rebase).rep ((H6.out.no ky).rebase).qk ((H6.out.no ky).rebase).gl ((H6.out.no ky).rebase).off (by rw [List.length_map, nat_int_map]; exact YROW.out y (H6.out.sd.kp.trans_no ky)) (by omega))
  have XR6 : Hid (∀ y, Kp No w6 y → SrcAt y (.slice ax xs.length cx) 1 xs.length (xs.map natV)) := Lib.hid (fun y ky => XROW.out y (H6.out.sd.kp.trans_no ky))
  go_wp2_with fail
  go_loopg [14, 15] xs.length (fun gk s14 s15 x => FcR w6 xs cl b0 gk s14 s15 x)
  case atStart => exact J0.out
  case round =>
    clear J0
    obtain ⟨i, hi, rfl, rfl, kp⟩ := hrel
    by_cases hlt : i < xs.length
    · obtain ⟨g1, o1, c1, hv1, _, hcell⟩ := (XR6.out wr kp).cellAt (by omega)
      have hv2 : ax = some ⟨g1, o1, none⟩ := by injection hv1
      subst hv2
      have hc := hcell i (natV (xs.getD i 0)) (by simp [hlt])
      unfold natV at hc
      have hlti : (i : Int) < xs.length := by omega
      have SN := Lib.hid (allT_succ xs cl hlt)
      have HI := Lib.hid hi
      have KP := Lib.hid kp
      clear hcell hv1 hi kp EX
      generalize (xs.getD i 0 : Int) = xi at *
      generalize ((xs.take i).all fun v => decide ((v : Int) < cl)) = ba at *
      obtain ⟨bw, hbw⟩ : ∃ bw, (b0 && ba) = bw := ⟨_, rfl⟩
      rw [hbw]
      have HBW := Lib.hid hbw
      clear hbw
      cases bw
      · have JN : Hid (∀ d, FcR w6 xs cl b0 (xs.length - (i + 1)) (.bool false) (.int .i64 ((i + 1 : Nat) : Int)) (wr.drewN d)) := Lib.hid (fun d => ⟨i + 1, by omega, rfl, by rw [SN.out, ← Bool.and_assoc, HBW.out]; rfl, KP.out.trans_no (Kp.drewN d)⟩)
        clear SN HBW
        go_wp2_with fail
        go_quiet (fail)
        go_wp2_with fail
        go_roundg (xs.length - (i + 1))
        case measure => have := HI.out; omega
        case rel => exact JN.out _
      · have JN : Hid (FcR w6 xs cl b0 (xs.length - (i + 1)) (.bool (decide (xi < cl))) (.int .i64 ((i + 1 : Nat) : Int)) wr.drew) := Lib.hid ⟨i + 1, by omega, rfl, by rw [SN.out, ← Bool.and_assoc, HBW.out, Bool.true_and], KP.out.trans_no Kp.drew⟩
        have S0 : Hid (wr.drew.cell? ⟨g1, o1 + i, none⟩ = some (.int .i64 xi)) := Lib.hid (by rw [Kp.drew.cell (World.block_lt_of_cell? _ _ hc) (fun x => x)]; exact hc)
        clear SN HBW
        go_upto_region 11 with fail
        go_region_held3 (fun y => y.cell? ⟨g1, o1 + i, none⟩ = some (.int .i64 xi)) (first | exact S0.out) (first | (go_at_call 49; (with_reducible refine (CL.out _).mono ?_); rintro e wz ⟨rfl, rfl⟩))
        all_goals
          go_wp2_with fail
          go_roundg (xs.length - (i + 1))
          case measure => have := HI.out; omega
          case rel => exact JN.out
    · obtain rfl : i = xs.length := by omega
      rw [List.take_length, ← MF.out]
      have hge : ¬ (xs.length : Int) < xs.length := by omega
      have KP := Lib.hid kp
      have EX1 := Lib.hid (EX.out wr kp)
      have H7 := Lib.hid (H6.out.no kp)
      clear hi kp hlt EX CL MF HB0 H6 XR6
      obtain ⟨b1, hb1⟩ : ∃ b1, mostF links k (fas xs) = b1 := ⟨_, rfl⟩
      have MV := Lib.hid hb1
      rw [hb1]
      clear hb1
      go_wp2_with fail
      refine EX1.out.mono ?_
      intro e w8 h8
      obtain ⟨r8, M8, L8, rfl, _, f8⟩ := H7.out.step h8
      have H8 := Lib.hid f8
      have VAL := Lib.hid (ValidQ f8.rep f8.qk (.tail _ (.head _)))
      have E1 := Lib.hid (EvalQ f8.rep f8.qk (.tail _ (.head _)) (AROW.out w8 f8.sd.kp))
      rw [show mostF links k (asg (gL (encF (dnF (xs.map Int.ofNat)) pkz pkz))) = b1 from MV.out] at E1
      clear h8 f8 EX1 H7
      go_wp2_with fail
      refine VAL.out.mono ?_
      rintro e wv ⟨rfl, rfl⟩
      clear VAL
      go_wp2_with fail
      refine E1.out.mono ?_
      rintro e w9 ⟨rfl, k9⟩
      have H9 := Lib.hid (H8.out.no k9)
      have E2 := Lib.hid (EvalQ H9.out.rep H9.out.qk (.head _) (AROW.out w9 H9.out.sd.kp))
      rw [show exF (dnF (ys.map Int.ofNat)) 12 (asg (gL (encF (dnF (xs.map Int.ofNat)) pkz pkz))) = _ from XF.out] at E2
      obtain ⟨b2, hb2⟩ : ∃ b2, decide (xs.map Int.ofNat = ys.map Int.ofNat) = b2 := ⟨_, rfl⟩
      rw [hb2] at E2
      have HB2 := Lib.hid hb2
      clear k9 E1 H8 hb2
      go_wp2_with fail
      refine E2.out.mono ?_
      rintro e wa ⟨rfl, ka⟩
      have HA := Lib.hid (H9.out.no ka)
      have IN := Lib.hid (Ints_ok (l1 := xs.map Int.ofNat) (l2 := ys.map Int.ofNat) (by rw [List.length_map, nat_int_map]; exact XROW.out wa HA.out.sd.kp) (by rw [List.length_map, nat_int_map]; exact YROW.out wa HA.out.sd.kp) (by rw [List.length_map]; omega))
      rw [HB2.out] at IN
      clear ka E2 H9
      go_wp2_with fail
      refine IN.out.mono ?_
      rintro e wb ⟨rfl, m, hm⟩
      have kb : Kp No wa wb := by rw [hm]; exact Kp.drewN m
      have HB := Lib.hid (HA.out.no kb)
      have KWB := Lib.hid ((HA.out.no kb).kpNo KW5.out O2.out)
      clear kb hm IN HA
      have SRC := Lib.hid (YROW.out wb HB.out.sd.kp)
      have HONE : Hid (∀ u ∈ ys.map natV, u.oneCell' = true) := Lib.hid (fun u hu => by obtain ⟨b, _, rfl⟩ := List.mem_map.1 hu; rfl)
      have hwb : wb.heap.size ≤ wb.heap.size := Nat.le_refl _
      cases b2
      all_goals
        go_upto_region 14 with (first | (at_builtin; refine wpList_append_srcG rfl _ _ rfl (base := wb.heap.size) (v := .slice none 0 0) Tryd.underlying26 hi0 hz0 hz1 hz2 rfl (by omega) rfl (World.ownsRow_nil _ _ _ _) rfl SRC.out HONE.out (by unfold maxLen; omega) (by omega) hwb ?_; intro vc wc hown0 hgrow hat; have hown : wc.ownsRow wb.heap.size 3 1 vc ys.length (ys.map natV) := (by simpa using hown0); obtain ⟨a2, c2, rfl⟩ := row_form hown; have k2 : Kp No wb wc := (Kp.grown hgrow).mono (fun x _ h => by simp [Value.ownBlock] at h); have SRC2 := Lib.hid (YROW.out wc (HB.out.sd.kp.trans_no k2)); have hwc : wb.heap.size ≤ wc.heap.size := k2.size) | (at_builtin; refine wpList_append_srcG rfl _ _ rfl (base := wb.heap.size) (v := .slice a2 ys.length c2) Tryd.underlying26 hi0 hz0 hz1 hz2 rfl (by omega) rfl hown rfl SRC2.out HONE.out (by unfold maxLen; omega) (by omega) hwc ?_; intro vd wd hownd hgrowd hatd))
        have kd : Kp No wb wd := k2.trans (A' := fun z => (Value.slice a2 ys.length c2).ownBlock = some z) (fun z hz => .inr (hown.lt z hz).1) (Kp.grown hgrowd)
        have HD := Lib.hid (HB.out.no kd)
        have KD := Lib.hid (KWB.out.trans_no kd)
        have HR := Lib.hid (HB.out.no kd).rebase
        have hm2 : (ys.map Int.ofNat ++ ys.map Int.ofNat).map intV = ys.map natV ++ ys.map natV := by rw [List.map_append, nat_int_map]
        have hl2 : (ys.map Int.ofNat ++ ys.map Int.ofNat).length = ys.length + ys.length := by rw [List.length_append, List.length_map]
        have EX2 := Lib.hid (Exactly_ok (ys.map Int.ofNat ++ ys.map Int.ofNat) (by rw [hl2]; omega) (okL_append OKB.out OKB.out) HR.out.rep HR.out.qk HR.out.gl HR.out.off (dv := vd) (by rw [hl2, hm2]; exact SrcAt.of_row hownd) (by omega))
        clear hown0 hgrow hat hown k2 SRC SRC2 hwc hownd hgrowd hatd kd HB hm2 hl2
        refine EX2.out.mono ?_
        intro e we he
        obtain ⟨r9, M9, L9, rfl, _, f9⟩ := HD.out.step he
        have e9 : r9 = r8 := f9.qk.eq (.head _) (.tail _ (.head _)) (fun x => exF_congr (fun v _ => by unfold dnF; simp) x)
        have KF := Lib.hid (f9.kpNo KW5.out O2.out)
        subst e9
        clear he f9 EX2 HD HR
        go_wp2_with fail
        go_ret
        exact ⟨rfl, KF.out⟩

end Go.Proofs.YtgglkldoclejaaaDoor
