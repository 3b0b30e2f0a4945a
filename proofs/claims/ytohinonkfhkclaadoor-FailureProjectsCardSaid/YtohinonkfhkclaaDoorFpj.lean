/-
  Walks: the law FailureProjects.
-/
import Derived.Test.YtohinonkfhkclaaDoorFo
import Derived.Test.YtohinonkfhkclaaDoorLaid
import Derived.Deep.RegionHeld3
namespace Go.Proofs.YtohinonkfhkclaaDoor
open Go.RowKit

theorem Restrict_neg {p : Nat} {M : Mgr} {L : Lay} (v : Int) (b : Bool) {w : World} (R : Rep w p M L) :
    Calls Tryd.prog 60 #[ptr p, .int .i64 (-1), .int .i64 v, .bool b] w fun e w' => e = .returned (.int .i64 (-1)) ∧ w = w' := by
  have VF := Lib.hid (valid_as (-1) false R (by unfold Mgr.valid; simp))
  clear R
  go_enter Tryd.func60, Tryd.ntmps60
  go_wp2_with fail
  refine VF.out.mono ?_
  rintro e w' ⟨rfl, rfl⟩
  go_wp2_with fail
  go_ret
  exact ⟨rfl, rfl⟩

def UnN (w : World) (gk : Nat) (s1 s19 : Value) (wr : World) : Prop := ∃ i, i + gk = 12 ∧ s19 = .int .i64 (i : Int) ∧ s1 = .int .i64 (-1) ∧ Kp No w wr
set_option maxRecDepth 100000 in
set_option maxHeartbeats 4000000 in
theorem Under_neg {p : Nat} {M : Mgr} {L : Lay} {w : World} (R : Rep w p M L) :
    Calls Tryd.prog 30 #[ptr p, .int .i64 (-1), .slice none 0 0] w fun e w' => e = .returned (.int .i64 (-1)) ∧ Kp No w w' := by
  have MK := Lib.hid (marks_ok [] (by decide) (dv := .slice none 0 0) (w := w) ⟨none, 0, rfl, rfl, .inl rfl⟩)
  have RN := Lib.hid (fun (y : World) (ky : Kp No w y) (v : Int) (b : Bool) => Restrict_neg v b (R.no ky))
  have VF := Lib.hid (fun (k : Nat) (y : World) => Failure_ok (k : Int) y)
  obtain ⟨T, hT⟩ : ∃ T, (if okL ([] : List Int) then dnF ([] : List Int) else fun _ => false) = T := ⟨_, rfl⟩
  rw [hT, show okL ([] : List Int) = true from rfl] at MK
  have IXH := Lib.hid (fun (k : Nat) (hk : k < 12) (w : World) => index_arr12 T hk w)
  clear hT R
  go_enter Tryd.func30, Tryd.ntmps30
  go_wp2_with fail
  refine MK.out.mono ?_
  rintro e w1 ⟨rfl, k1⟩
  have K1 := Lib.hid k1
  have BX : Hid ((w1.alloc (.cells #[.bool false, .bool false, .bool false, .bool false, .bool false, .bool false, .bool false, .bool false, .bool false, .bool false, .bool false, .bool false] 81)).heap[w1.heap.size]? = some (.cells #[.bool false, .bool false, .bool false, .bool false, .bool false, .bool false, .bool false, .bool false, .bool false, .bool false, .bool false, .bool false] 81 (0, 0))) := Lib.hid (heap_alloc_new _ _)
  have KA : Hid (Kp No w1 (w1.alloc (.cells #[.bool false, .bool false, .bool false, .bool false, .bool false, .bool false, .bool false, .bool false, .bool false, .bool false, .bool false, .bool false] 81))) := Lib.hid (Kp.alloc _)
  clear k1 MK
  go_wp2_with (first | (refine wpList_store_arr rfl _ _ _ rfl w1.heap.size (arr12 T) ?_ ?_ 81 _ BX.out ?_ ?_ (arr12_one _) ?_; rfl; rfl; kernel_rfl; rfl; intro w2 hw2 kw2) | (refine wpList_load_row rfl 81 _ rfl w1.heap.size ?_ 81 (arr12 T) (0, 0) _ hw2 Tryd.underlying81 ?_ ?_ ?_; rfl; rfl; kernel_rfl))
  have k2 : Kp No w w2 := K1.out.trans_no (KA.out.trans (A' := fun b => b = w1.heap.size) (fun b e => .inr (by omega)) kw2)
  have K2 := Lib.hid k2
  have J0 : Hid (UnN w2 12 (.int .i64 (-1)) (.int .i64 0) w2) := Lib.hid ⟨0, by omega, rfl, rfl, Kp.refl _ _⟩
  clear hw2 kw2 k2 K1 BX KA
  go_loopg [1, 19] 12 (fun gk s1 s19 wr => UnN w2 gk s1 s19 wr)
  case atStart => exact J0.out
  case round =>
    clear J0
    obtain ⟨k, hk, rfl, rfl, h⟩ := hrel
    by_cases hlt : k < 12
    · have hk0 : (0 : Int) ≤ (k : Int) := by omega
      have hk12 : (k : Int) < 12 := by omega
      have ix := IXH.out k hlt
      have FK := Lib.hid (VF.out k wr)
      rw [if_pos (by omega)] at FK
      have HK := Lib.hid hk
      have RS := Lib.hid (RN.out wr (K2.out.trans_no h) (k : Int))
      have JN : Hid (UnN w2 (12 - (k + 1)) (.int .i64 (-1)) (.int .i64 ((k + 1 : Nat) : Int)) wr) := Lib.hid ⟨k + 1, by omega, rfl, rfl, h⟩
      clear h hk
      generalize hT : T k = tk at *
      go_wp2_with fail
      refine FK.out.mono ?_
      rintro e w' ⟨rfl, rfl⟩
      clear FK
      go_wp2_with fail
      refine (RS.out tk).mono ?_
      rintro e w' ⟨rfl, rfl⟩
      go_wp2_with fail
      go_roundg (12 - (k + 1))
      case measure => have := HK.out; omega
      case rel => exact JN.out
    · obtain rfl : k = 12 := by omega
      have KF := Lib.hid (K2.out.trans_no h)
      clear h hk hlt
      go_wp2_with fail
      go_ret
      exact ⟨rfl, KF.out⟩

/-- The state of the loop over the sets. -/
def FpR (w0 : World) (p : Nat) (L0 : Lay) (ss ps : List Nat) (t q : Nat) (gk : Nat) (s10 s11 s12 s13 s14 : Value) (wr : World) : Prop :=
  ∃ i f so wa M L, i + gk = ss.length ∧ s14 = .int .i64 (i : Int) ∧ s10 = .int .i64 f ∧ s11 = .int .i64 so ∧ s12 = .int .i64 wa ∧ s13 = .bool (inP ss ps t q i) ∧ Hf w0 p L0 220 (2 + i * 10000000000) wr M L [(f, fpF ss ps i), (so, soF ss i), (wa, waF ss ps t i)]

theorem and_st (s p : Nat) : PSt 220 (fun a => exS s a && pF p a) 40960000 := (PSt.op (fun x y => x && y) (PSt.few (exS_rd s)) (rgF_st (k := 4) (nx := false) (by omega) p p)).mono (by decide)

set_option maxRecDepth 1000000 in
set_option maxHeartbeats 8000000 in
theorem FailureProjects_walk (ss ps : List Nat) (t q : Nat) {sv pv : Value} {w : World} (hs : U16At w sv ss) (hp : U16At w pv ps) (ht : t < 65536) (hq : q < 65536) (g : Gl w) :
    Calls Tryd.prog 5 #[sv, pv, .int .u16 (t : Int), .int .u16 (q : Int)] w fun e w' => e = .returned (.bool true) ∧ Kp No w w' := by
  have GLW := Lib.hid g
  have AW := Lib.hid (fawake_ok g)
  have SRC := Lib.hid hs.src
  have PRC := Lib.hid hp.src
  have LTS := Lib.hid hs.lt
  have LTP := Lib.hid hp.lt
  have hm := maxLen_val
  have hle : (ss.length : Int) ≤ 9223372036854775807 := by have := hs.len; omega
  have hle2 : (ps.length : Int) ≤ 9223372036854775807 := by have := hp.len; omega
  obtain ⟨ao, cp, rfl⟩ := hs.src.form
  obtain ⟨bo, dp, rfl⟩ := hp.src.form
  clear hs hp hm g
  by_cases h12 : 12 < ss.length
  · have h12i : (12 : Int) < (ss.length : Int) := by omega
    go_enter Tryd.func5, Tryd.ntmps5
    go_wp2_with fail
    refine AW.out.mono ?_
    rintro e w1 ⟨rfl, k1⟩
    have K1 := Lib.hid k1
    clear k1 AW
    go_wp2_with fail
    go_ret
    exact ⟨rfl, K1.out⟩
  have h12i : ¬ (12 : Int) < (ss.length : Int) := by omega
  by_cases hsp : ps.length < ss.length
  · have hspi : (ps.length : Int) < (ss.length : Int) := by omega
    go_enter Tryd.func5, Tryd.ntmps5
    go_wp2_with fail
    refine AW.out.mono ?_
    rintro e w1 ⟨rfl, k1⟩
    have K1 := Lib.hid k1
    clear k1 AW
    go_wp2_with fail
    go_ret
    exact ⟨rfl, K1.out⟩
  have hspi : ¬ (ps.length : Int) < (ss.length : Int) := by omega
  have hn12 : ss.length ≤ 12 := by omega
  have hnp : ss.length ≤ ps.length := by omega
  have DNT := Lib.hid (fun (y : World) => down_ok t ht y)
  have HQ := Lib.hid hq
  have hq0 : (0 : Int) ≤ (q : Int) := by omega
  have hq1 : (q : Int) < 65536 := by omega
  have OKT := Lib.hid (okL_dw t)
  have htl := dwL_len t
  clear hle hle2
  go_enter Tryd.func5, Tryd.ntmps5
  go_wp2_with fail
  refine AW.out.mono ?_
  rintro e w1 ⟨rfl, k1⟩
  have G1 := Lib.hid (GLW.out.no k1)
  have K1 := Lib.hid k1
  have NEW := Lib.hid (HNew_ok w1)
  clear k1 AW GLW
  go_wp2_with fail
  refine NEW.out.mono ?_
  rintro e w2 ⟨pm, L2, rfl, R2, k2, o2⟩
  have H2 := Lib.hid (hf_new G1.out (Kp.refl No _) R2 k2 o2)
  have K2 := Lib.hid (K1.out.trans_no k2)
  have O2 : Hid (∀ x, L2.at pm x → w.heap.size ≤ x) := Lib.hid (fun x hx => by have := o2 x hx; have := K1.out.size; omega)
  have S2 : Hid (∀ y, Kp (L2.at pm) w2 y → SrcAt y (.slice ao ss.length cp) 1 ss.length (ss.map u16V)) := Lib.hid (fun y ky => SRC.out.no ((K2.out.trans (A' := L2.at pm) (fun x hx => .inr (O2.out x hx)) ky)))
  have P2 : Hid (∀ y, Kp (L2.at pm) w2 y → SrcAt y (.slice bo ps.length dp) 1 ps.length (ps.map u16V)) := Lib.hid (fun y ky => PRC.out.no ((K2.out.trans (A' := L2.at pm) (fun x hx => .inr (O2.out x hx)) ky)))
  have J0 : Hid (FpR w2 pm L2 ss ps t q ss.length (.int .i64 0) (.int .i64 0) (.int .i64 0) (.bool false) (.int .i64 0) w2) := Lib.hid ⟨0, 0, 0, 0, _, L2, by omega, rfl, rfl, rfl, rfl, rfl, (H2.out.consts.mono (c' := 2 + 0 * 10000000000) (by omega)).sub (fun x hx => by
    rcases List.mem_cons.1 hx with rfl | hx
    · exact .head _
    · rcases List.mem_cons.1 hx with rfl | hx
      · exact .head _
      · rcases List.mem_singleton.1 hx with rfl; exact .head _)⟩
  clear R2 k2 o2 NEW G1 SRC PRC
  go_wp2_with fail
  go_loopg [10, 11, 12, 13, 14] ss.length (fun gk s10 s11 s12 s13 s14 x => FpR w2 pm L2 ss ps t q gk s10 s11 s12 s13 s14 x)
  case atStart => exact J0.out
  case round =>
    clear J0
    obtain ⟨i, f, so, wa, M, L, hi, rfl, rfl, rfl, rfl, rfl, hf⟩ := hrel
    have HF := Lib.hid hf
    have HI := Lib.hid hi
    clear hf hi
    by_cases hlt : i < ss.length
    · have hi12 : i < 12 := by omega
      obtain ⟨g1, o1, c1, hv1, _, hcell⟩ := (S2.out wr HF.out.sd.kp).cellAt (by omega)
      have hv2 : ao = some ⟨g1, o1, none⟩ := by injection hv1
      subst hv2
      obtain ⟨g2, o2, c2, hv3, _, hcell2⟩ := (P2.out wr HF.out.sd.kp).cellAt (by omega)
      have hv4 : bo = some ⟨g2, o2, none⟩ := by injection hv3
      subst hv4
      have hip : i < ps.length := by omega
      have hc := hcell i (u16V (ss.getD i 0)) (by simp [hlt])
      have SC : Hid (∀ y, Kp (L2.at pm) w2 y → y.cell? ⟨g1, o1 + i, none⟩ = some (u16V (ss.getD i 0))) := Lib.hid (fun y ky => by
        obtain ⟨g1', o1', c1', hv1', _, hcell'⟩ := (S2.out y ky).cellAt (by omega)
        cases hv1'
        exact hcell' i _ (by simp [hlt]))
      have PC : Hid (∀ y, Kp (L2.at pm) w2 y → y.cell? ⟨g2, o2 + i, none⟩ = some (u16V (ps.getD i 0))) := Lib.hid (fun y ky => by
        obtain ⟨g1', o1', c1', hv1', _, hcell'⟩ := (P2.out y ky).cellAt (by omega)
        cases hv1'
        exact hcell' i _ (by simp [hip]))
      have hlti : (i : Int) < ss.length := by omega
      have hipi : (i : Int) < ps.length := by omega
      have hs16 : ss.getD i 0 < 65536 := LTS.out _ (by rw [List.getD_eq_getElem?_getD, List.getElem?_eq_getElem hlt]; exact List.getElem_mem hlt)
      have hp16 : ps.getD i 0 < 65536 := LTP.out _ (by rw [List.getD_eq_getElem?_getD, List.getElem?_eq_getElem hip]; exact List.getElem_mem hip)
      have FS := Lib.hid (fpF_succ ss ps i)
      have SS := Lib.hid (soF_succ ss i)
      have WY := Lib.hid (waF_yes ss ps t i)
      have WN := Lib.hid (waF_no ss ps t i)
      have IY := Lib.hid (inP_yes ss ps t q i)
      have IN := Lib.hid (inP_no ss ps t q i)
      have FST := Lib.hid ((fpF_fp ss ps (i + 1)).st.mono (t := 856064) (by omega))
      have SST := Lib.hid (PSt.few (n := 220) (soF_rd ss (i + 1)))
      have WST := Lib.hid ((waF_fp ss ps t (i + 1)).st)
      unfold u16V at hc SC PC
      clear hcell hv1 hcell2 hv3
      generalize ss.getD i 0 = s at *
      generalize ps.getD i 0 = p at *
      have DN := Lib.hid (fun (y : World) => down_ok s hs16 y)
      have OKX := Lib.hid (okL_dw s)
      have hxl := dwL_len s
      have hp0 : (0 : Int) ≤ (p : Int) := by omega
      have hp1 : (p : Int) < 65536 := by omega
      have HS := Lib.hid hs16
      clear hs16
      go_wp2_with fail
      refine (DN.out wr).mono ?_
      rintro e w3 ⟨xv, rfl, xrow, k3⟩
      have H3 := Lib.hid (HF.out.no k3)
      have EX := Lib.hid (Exactly_ok ((dwL s).map Int.ofNat) (by rw [List.length_map]; omega) OKX.out H3.out.rep H3.out.qk H3.out.gl H3.out.off (dv := xv) (by rw [List.length_map, nat_int_map]; exact SrcAt.of_row xrow) (by omega))
      obtain ⟨ax, cx, rfl⟩ := row_form xrow
      clear xrow k3 HF hc
      go_wp2_with fail
      refine EX.out.mono ?_
      intro e w4 h4
      obtain ⟨r4, M4, L4, rfl, _, f4⟩ := H3.out.step h4
      have H4 := Lib.hid (f4.cong (G := exS s) (fun _ => rfl))
      clear h4 f4 EX H3
      have RG : Hid (Calls Tryd.prog 22 #[ptr pm, .int .i64 4, .bool false, .int .u32 (IntKind.u32.wrap (p : Int)), .int .u32 (IntKind.u32.wrap (p : Int))] w4.drew (OpQ pm 220 (2 + i * 10000000000 + 300000 + 10000000) L4 w4.drew (rgF 4 false p p) _)) := Lib.hid (by
        rw [show IntKind.u32.wrap (p : Int) = (p : Int) from by rw [IntKind.wrap_u32]; omega]
        exact Range_ok 4 (by omega) false p p (by omega) (by omega) (H4.out.no Kp.drew).rep (H4.out.no Kp.drew).qk (H4.out.no Kp.drew).gl (H4.out.no Kp.drew).off (by omega))
      have SP0 : Hid (w4.drew.cell? ⟨g2, o2 + i, none⟩ = some (.int .u16 (p : Int))) := Lib.hid (PC.out _ (H4.out.no Kp.drew).sd.kp)
      go_upto_region 12 with fail
      go_region_held3 (fun y => y.cell? ⟨g2, o2 + i, none⟩ = some (.int .u16 (p : Int))) (first | exact SP0.out | exact SB.out) (first | (go_at_call 22; (with_reducible refine RG.out.mono ?_); intro e w5 h5; obtain ⟨r5, M5, L5, rfl, _, f5⟩ := (H4.out.no Kp.drew).step h5; have SB := Lib.hid (PC.out w5 f5.sd.kp); have H5 := Lib.hid (f5.cong (G := pF p) (fun _ => rfl)); clear h5 f5))
      all_goals
        clear SP0 SB RG H4
        have AN := Lib.hid (AndQ (f := r4) (g := r5) (F := exS s) (G := pF p) H5.out.rep H5.out.qk (.tail _ (.head _)) (.head _) (and_st s p) (by omega))
        go_wp2_with fail
        refine AN.out.mono ?_
        intro e w6 h6
        obtain ⟨r6, M6, L6, rfl, _, f6⟩ := H5.out.step h6
        have H6 := Lib.hid f6
        clear h6 f6 AN H5
        have OR1 := Lib.hid (OrQ (f := f) (g := r6) (F := fpF ss ps i) (G := fun a => exS s a && pF p a) H6.out.rep H6.out.qk (.tail _ (.tail _ (.tail _ (.head _)))) (.head _) (s := 856064) (by rw [← FS.out]; exact FST.out) (by omega))
        rw [← FS.out] at OR1
        go_wp2_with fail
        refine OR1.out.mono ?_
        intro e w7 h7
        obtain ⟨r7, M7, L7, rfl, _, f7⟩ := H6.out.step h7
        have H7 := Lib.hid f7
        clear h7 f7 OR1 H6
        have OR2 := Lib.hid (OrQ (f := so) (g := r4) (F := soF ss i) (G := exS s) H7.out.rep H7.out.qk (.tail _ (.tail _ (.tail _ (.tail _ (.tail _ (.head _)))))) (.tail _ (.tail _ (.tail _ (.head _)))) (s := 4096) (by rw [← SS.out]; exact SST.out) (by omega))
        rw [← SS.out] at OR2
        go_wp2_with fail
        refine OR2.out.mono ?_
        intro e w8 h8
        obtain ⟨r8, M8, L8, rfl, _, f8⟩ := H7.out.step h8
        have H8 := Lib.hid (f8.sub (B' := [(r7, fpF ss ps (i + 1)), (r8, soF ss (i + 1)), (wa, waF ss ps t i), (r5, pF p)]) (fun x hx => by
          rcases List.mem_cons.1 hx with rfl | hx
          · exact .tail _ (.head _)
          · rcases List.mem_cons.1 hx with rfl | hx
            · exact .head _
            · rcases List.mem_cons.1 hx with rfl | hx
              · exact .tail _ (.tail _ (.tail _ (.tail _ (.tail _ (.tail _ (.tail _ (.head _)))))))
              · rcases List.mem_singleton.1 hx with rfl; exact .tail _ (.tail _ (.tail _ (.head _)))))
        have hc8 := SC.out w8 f8.sd.kp
        clear h8 f8 OR2 H7 FS SS FST SST
        go_wp2_with fail
        refine (DN.out w8).mono ?_
        rintro e w9 ⟨xv, rfl, xrow, k9⟩
        have XR := Lib.hid xrow
        obtain ⟨ax2, cx2, rfl⟩ := row_form xrow
        have K9 := Lib.hid k9
        clear xrow k9 hc8
        go_wp2_with fail
        refine (DNT.out w9).mono ?_
        rintro e wa1 ⟨yv, rfl, yrow, ka⟩
        have IC := Lib.hid (Ints_ok (l1 := (dwL s).map Int.ofNat) (l2 := (dwL t).map Int.ofNat) (w := wa1) (by rw [List.length_map, nat_int_map]; exact SrcAt.of_row (ownsRow_kp XR.out ka (fun _ _ z => z))) (by rw [List.length_map, nat_int_map]; exact SrcAt.of_row yrow) (by rw [List.length_map]; omega))
        obtain ⟨ay, cy, rfl⟩ := row_form yrow
        have KA := Lib.hid (K9.out.trans_no ka)
        clear yrow ka XR K9
        by_cases heq : dwL s = dwL t
        · have hd : decide ((dwL s).map Int.ofNat = (dwL t).map Int.ofNat) = true := decide_eq_true (by rw [heq])
          rw [hd] at IC
          have WYE := Lib.hid (WY.out heq)
          have IYE := Lib.hid (IY.out heq)
          clear hd WY WN IY IN heq
          go_wp2_with fail
          refine IC.out.mono ?_
          rintro e wb ⟨rfl, m, hm⟩
          have kb : Kp No wa1 wb := by rw [hm]; exact Kp.drewN m
          have HB := Lib.hid ((H8.out.no KA.out).no kb)
          clear hm kb IC H8 KA
          have OR3 := Lib.hid (OrQ (f := wa) (g := r5) (F := waF ss ps t i) (G := pF p) HB.out.rep HB.out.qk (.tail _ (.tail _ (.head _))) (.tail _ (.tail _ (.tail _ (.head _)))) (s := 4096 + 1 * 65536) (by rw [← WYE.out]; exact WST.out) (by omega))
          rw [← WYE.out] at OR3
          go_wp2_with fail
          refine OR3.out.mono ?_
          intro e wc h9
          obtain ⟨r9, M9, L9, rfl, _, f9⟩ := HB.out.step h9
          have H9 := Lib.hid ((f9.mono (c' := 2 + (i + 1) * 10000000000) (by omega)).sub (B' := [(r7, fpF ss ps (i + 1)), (r8, soF ss (i + 1)), (r9, waF ss ps t (i + 1))]) (fun x hx => by
            rcases List.mem_cons.1 hx with rfl | hx
            · exact .tail _ (.head _)
            · rcases List.mem_cons.1 hx with rfl | hx
              · exact .tail _ (.tail _ (.head _))
              · rcases List.mem_singleton.1 hx with rfl; exact .head _))
          have hcp := PC.out wc f9.sd.kp
          clear h9 f9 OR3 HB WYE WST
          cases hb : inP ss ps t q i
          · have JN : Hid (FpR w2 pm L2 ss ps t q (ss.length - (i + 1)) (.int .i64 r7) (.int .i64 r8) (.int .i64 r9) (.bool ((p : Int) == (q : Int))) (.int .i64 ((i + 1 : Nat) : Int)) wc) := Lib.hid ⟨i + 1, r7, r8, r9, M9, L9, by omega, rfl, rfl, rfl, rfl, by
              rw [IYE.out, hb, Bool.false_or]
              congr 1
              rw [Bool.eq_iff_iff, beq_iff_eq, decide_eq_true_eq]; omega, H9.out⟩
            clear IYE H9
            go_wp2_with fail
            go_roundg (ss.length - (i + 1))
            case measure => have := HI.out; omega
            case rel => exact JN.out
          · have JN : Hid (FpR w2 pm L2 ss ps t q (ss.length - (i + 1)) (.int .i64 r7) (.int .i64 r8) (.int .i64 r9) (.bool true) (.int .i64 ((i + 1 : Nat) : Int)) wc) := Lib.hid ⟨i + 1, r7, r8, r9, M9, L9, by omega, rfl, rfl, rfl, rfl, by
              rw [IYE.out, hb]; rfl, H9.out⟩
            clear IYE H9
            go_wp2_with fail
            go_roundg (ss.length - (i + 1))
            case measure => have := HI.out; omega
            case rel => exact JN.out
        · have hd : decide ((dwL s).map Int.ofNat = (dwL t).map Int.ofNat) = false := decide_eq_false (fun h => heq (ofNat_inj.1 h))
          rw [hd] at IC
          have WNE := Lib.hid (WN.out heq)
          have INE := Lib.hid (IN.out heq)
          clear hd WY WN IY IN heq WST
          go_wp2_with fail
          refine IC.out.mono ?_
          rintro e wb ⟨rfl, m, hm⟩
          have kb : Kp No wa1 wb := by rw [hm]; exact Kp.drewN m
          have JN : Hid (FpR w2 pm L2 ss ps t q (ss.length - (i + 1)) (.int .i64 r7) (.int .i64 r8) (.int .i64 wa) (.bool (inP ss ps t q i)) (.int .i64 ((i + 1 : Nat) : Int)) wb) := Lib.hid ⟨i + 1, r7, r8, wa, M8, L8, by omega, rfl, rfl, rfl, rfl, by rw [INE.out], by
            rw [WNE.out]
            exact (((H8.out.no KA.out).no kb).mono (c' := 2 + (i + 1) * 10000000000) (by omega)).sub (fun x hx => by
              rcases List.mem_cons.1 hx with rfl | hx
              · exact .head _
              · rcases List.mem_cons.1 hx with rfl | hx
                · exact .tail _ (.head _)
                · rcases List.mem_singleton.1 hx with rfl; exact .tail _ (.tail _ (.head _)))⟩
          clear hm kb IC H8 KA INE WNE
          go_wp2_with fail
          go_roundg (ss.length - (i + 1))
          case measure => have := HI.out; omega
          case rel => exact JN.out
    · obtain rfl : i = ss.length := by have := HI.out; omega
      have hge : ¬ (ss.length : Int) < ss.length := by omega
      have FST := Lib.hid (fun (i : Nat) (hi : i ≤ 12) => ((((fpF_fp ss ps ss.length).un (dnF ((dwL t).map Int.ofNat)) hi).st).mono (t := 856064) (by omega)))
      have UL := Lib.hid (under_law ss ps t ss.length)
      have SL := Lib.hid (some_law ss ps (fun j hj => LTP.out _ (by rw [List.getD_eq_getElem?_getD, List.getElem?_eq_getElem (by omega)]; exact List.getElem_mem (by omega))))
      have IL := Lib.hid (in_law ss ps t ss.length (dnF []) HQ.out)
      have INQ : Hid ((pkp q).in32) := Lib.hid (pkp_ok HQ.out).in32
      clear hlt HI S2 P2 LTS LTP hsp hspi hnp h12 h12i
      generalize fpF ss ps ss.length = Ff at *
      generalize soF ss ss.length = Fs at *
      generalize waF ss ps t ss.length = Fw at *
      generalize inP ss ps t q ss.length = b at *
      go_wp2_with fail
      refine (DNT.out wr).mono ?_
      rintro e w3 ⟨yv, rfl, yrow, k3⟩
      have H3 := Lib.hid (HF.out.no k3)
      have UN := Lib.hid (Under_ok f Ff (.head _) ((dwL t).map Int.ofNat) (by rw [List.length_map]; omega) OKT.out (s := 856064) FST.out (dv := yv) H3.out.rep H3.out.qk H3.out.gl H3.out.off (by rw [List.length_map, nat_int_map]; exact SrcAt.of_row yrow) (by omega))
      obtain ⟨ay, cy, rfl⟩ := row_form yrow
      clear yrow k3 HF FST
      go_wp2_with fail
      refine UN.out.mono ?_
      intro e w4 h4
      obtain ⟨r4, M4, L4, rfl, _, f4⟩ := H3.out.step h4
      have e4 : r4 = wa := f4.qk.eq (.head _) (.tail _ (.tail _ (.tail _ (.head _)))) UL.out
      subst e4
      have H4 := Lib.hid f4
      clear h4 f4 UN H3
      have SO := Lib.hid (SomeQ H4.out.rep H4.out.qk (f := f) (F := Ff) (.tail _ (.head _)) (by omega))
      rw [SL.out] at SO
      go_wp2_with fail
      refine SO.out.mono ?_
      rintro e w5 ⟨y, ky, h5⟩
      obtain ⟨r5, M5, L5, rfl, _, f5⟩ := (H4.out.no ky).step h5
      have e5 : r5 = so := f5.qk.eq (.head _) (.tail _ (.tail _ (.tail _ (.head _)))) (fun _ => rfl)
      subst e5
      have H5 := Lib.hid f5
      clear h5 f5 ky SO H4
      have EN : Hid (Calls Tryd.prog 32 #[.slice none 0 0, .agg #[.int .u32 0, .int .u32 0, .int .i64 0, .int .i64 0, .int .i64 (q : Int)], .agg #[.int .u32 0, .int .u32 0, .int .i64 0, .int .i64 0, .int .i64 0]] w5 (EncPost w5 (encF (dnF []) (pkp q) pkz))) := Lib.hid (Encode_ok [] (pkp q) pkz INQ.out pkz_ok.in32 H5.out.gl ⟨none, 0, rfl, rfl, .inl rfl⟩ (by decide))
      go_wp2_with fail
      refine Calls.mono EN.out ?_
      rintro e w6 ⟨ga, rfl, arow, k6⟩
      have H6 := Lib.hid (H5.out.no k6)
      have EV := Lib.hid (EvalQ H6.out.rep H6.out.qk (f := r4) (F := Fw) (.tail _ (.tail _ (.tail _ (.tail _ (.head _))))) (bools_row arow))
      rw [IL.out] at EV
      clear arow k6 EN H5
      go_wp2_with fail
      refine EV.out.mono ?_
      rintro e w7 ⟨rfl, k7⟩
      have H7 := Lib.hid (H6.out.no k7)
      have SN := Lib.hid (Some_neg H7.out.rep H7.out.qk.nn)
      clear k7 EV H6
      go_wp2_with fail
      refine SN.out.mono ?_
      rintro e w8 ⟨rfl, k8⟩
      have H8 := Lib.hid (H7.out.no k8)
      have UG := Lib.hid (Under_neg H8.out.rep)
      clear k8 SN H7
      go_wp2_with fail
      refine UG.out.mono ?_
      rintro e w9 ⟨rfl, k9⟩
      have KF := Lib.hid ((H8.out.no k9).kpNo K2.out O2.out)
      clear k9 UG H8
      go_wp2_with fail
      go_ret
      exact ⟨rfl, KF.out⟩

end Go.Proofs.YtohinonkfhkclaaDoor
