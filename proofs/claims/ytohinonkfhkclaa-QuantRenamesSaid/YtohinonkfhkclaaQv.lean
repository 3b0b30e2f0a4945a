/-
  The reference's Rename.
-/
import Derived.Test.YtohinonkfhkclaaQu
namespace Go.Proofs.Ytohinonkfhkclaa
open Go.RowKit

/-- The index behind j steps. -/
def rnB (n i : Nat) (fr tg : List Nat) (j k : Nat) : Prop := k < 2 ^ n ∧ ∀ v, v < n → k.testBit v = i.testBit ((rnI n fr tg j).getD v 0)
theorem rnB_zero {n i : Nat} {fr tg : List Nat} (h : i < 2 ^ n) : rnB n i fr tg 0 i := ⟨h, fun v hv => by simp [rnI, hv]⟩
theorem rnB_step {n i j k : Nat} {fr tg : List Nat} (hn : n ≤ 6) (hu : fr.getD j 0 < n) (b : rnB n i fr tg j k) : rnB n i fr tg (j + 1) (fixb k (fr.getD j 0) (i.testBit (tg.getD j 0))) := by
  refine ⟨fix_lt hn hu b.1 _, fun v hv => ?_⟩
  have h := fix_bits hn hu b.1 (i.testBit (tg.getD j 0)) v hv
  unfold bitsOf Mgr.upd at h
  rw [h, rnI_succ]
  have hl := rnI_len n fr tg j
  rw [show ((rnI n fr tg j).set (fr.getD j 0) (tg.getD j 0)).getD v 0 = ((rnI n fr tg j).set (fr.getD j 0) (tg.getD j 0))[v]?.getD 0 from List.getD_eq_getElem?_getD .., List.getElem?_set]
  by_cases e : v = fr.getD j 0
  · rw [if_pos e, if_pos e.symm, if_pos (by omega)]; rfl
  · rw [if_neg e, if_neg (fun h => e h.symm), ← List.getD_eq_getElem?_getD]
    exact b.2 v hv
theorem sbt_clr : ∀ i : Fin 64, ∀ v : Fin 6, sbt (clr i.val v.val) v.val = sbt i.val v.val := by decide +kernel
theorem clr_64 : ∀ i : Fin 64, ∀ v : Fin 6, clr i.val v.val < 64 := by decide +kernel
theorem rnB_done {n i k : Nat} {fr tg : List Nat} {F : Bfn} (hF : Upto n F) (b : rnB n i fr tg fr.length k) : F (bitsOf k) = rnF (rnT n fr tg) F (bitsOf i) := hF _ _ (fun v hv => b.2 v hv)

def RnK (n i : Nat) (fr tg : List Nat) (wr : World) (gk : Nat) (s9 s10 : Value) (x : World) : Prop :=
  ∃ j k : Nat, j + gk = fr.length ∧ s10 = .int .i64 (j : Int) ∧ s9 = .int .i64 (k : Int) ∧ rnB n i fr tg j k ∧ x = wr

set_option maxRecDepth 100000 in
set_option maxHeartbeats 2000000 in
theorem RRename_ok {n : Nat} (hn : n ≤ 6) (fr tg : List Nat) (hl : fr.length = tg.length) (hll : fr.length ≤ 1000000) (hfr : ∀ v, v ∈ fr → v < n) (htg : ∀ v, v ∈ tg → v < n) {B : Nat} {fv dv1 dv2 : Value} {F : Bfn} {w : World} (hF : Upto n F) (hf : Tb B w fv (tab n F))
    (hd1 : SrcAt w dv1 1 fr.length (fr.map natV)) (hd2 : SrcAt w dv2 1 fr.length (tg.map natV)) :
    Calls Try.prog 37 #[fv, dv1, dv2] w (TPost w (tab n (rnF (rnT n fr tg) F))) := by
  have hN := pow_le_64 hn
  have HD1 := Lib.hid hd1
  have HD2 := Lib.hid hd2
  obtain ⟨ao1, cp1, rfl⟩ := hd1.form
  obtain ⟨ao2, cp2, rfl⟩ := hd2.form
  obtain ⟨g, c, rfl, hgl⟩ := hf.form
  have FIN : Hid (∀ wr, FillJ w w.heap.size (2 ^ n) (fun i => rnF (rnT n fr tg) F (bitsOf i)) (2 ^ n) wr → TPost w (tab n (rnF (rnT n fr tg) F)) (.returned (.slice (some ⟨w.heap.size, 0, none⟩) (2 ^ n) (2 ^ n))) wr) := Lib.hid (fun wr j => j.done)
  have CELL : Hid (∀ wr, Kp No w wr → ∀ i k, rnB n i fr tg fr.length k → k < 2 ^ n ∧ wr.cell? ⟨g, k, none⟩ = some (.bool (rnF (rnT n fr tg) F (bitsOf i)))) := Lib.hid (fun wr kp i k b => by
    refine ⟨b.1, ?_⟩
    rw [hf.cellAt kp b.1, rnB_done hF b])
  have STEP : Hid (∀ i j k, j < fr.length → rnB n i fr tg j k → rnB n i fr tg (j + 1) (fixb k (fr.getD j 0) (i.testBit (tg.getD j 0)))) := Lib.hid (fun i j k hj b => rnB_step hn (hfr _ (by rw [List.getD_eq_getElem?_getD, List.getElem?_eq_getElem hj]; exact List.getElem_mem hj)) b)
  have LT : Hid (∀ j, j < fr.length → fr.getD j 0 < n ∧ tg.getD j 0 < n) := Lib.hid (fun j hj => ⟨hfr _ (by rw [List.getD_eq_getElem?_getD, List.getElem?_eq_getElem hj]; exact List.getElem_mem hj), htg _ (by rw [List.getD_eq_getElem?_getD, List.getElem?_eq_getElem (by omega : j < tg.length)]; exact List.getElem_mem _)⟩)
  have BLT : Hid (∀ i j k, rnB n i fr tg j k → k < 64) := Lib.hid (fun i j k b => by have := b.1; omega)
  have RNZ : Hid (∀ i, i < 2 ^ n → rnB n i fr tg 0 i) := Lib.hid (fun i hi => rnB_zero hi)
  have hli : (fr.length : Int) ≤ 1000000 := by omega
  have hn2 : tg.length = fr.length := hl.symm
  clear hf hF hfr htg hd1 hd2 hl
  generalize hT : (fun i => rnF (rnT n fr tg) F (bitsOf i)) = T at *
  have CELL' : Hid (∀ wr, Kp No w wr → ∀ i k, rnB n i fr tg fr.length k → k < 2 ^ n ∧ wr.cell? ⟨g, k, none⟩ = some (.bool (T i))) := Lib.hid (by rw [← hT]; exact CELL.out)
  generalize tab n (rnF (rnT n fr tg) F) = TT at *
  clear CELL hT
  generalize hNN : 2 ^ n = N at *
  clear hNN
  obtain ⟨w1, hmk, J0⟩ := make_tab w N (by omega) T
  go_enter Try.func37, Try.ntmps37
  go_wp2_with fail
  clear hmk
  go_loopg [8, 9, 10] N (fun gk s8 s9 s10 wr => FillR w w.heap.size N T gk s8 wr)
  case atStart => exact ⟨0, by omega, rfl, J0.out⟩
  case round =>
    clear J0
    obtain ⟨i, hi, rfl, j⟩ := hrel
    by_cases hlt : i < N
    · have hlti : (i : Int) < N := by omega
      have HI := Lib.hid hi
      have JJ := Lib.hid j
      have K0 : Hid (RnK n i fr tg wr fr.length (.int .i64 (i : Int)) (.int .i64 0) wr) := Lib.hid ⟨0, i, by omega, rfl, rfl, RNZ.out i hlt, rfl⟩
      clear j hi
      go_wp2_with fail
      go_loopg [9, 10] fr.length (fun gk s9 s10 x => RnK n i fr tg wr gk s9 s10 x)
      case atStart => exact K0.out
      case round =>
        clear K0
        obtain ⟨jj, k, hj, rfl, rfl, hb, rfl⟩ := hrel
        have HJ := Lib.hid hj
        by_cases hjl : jj < fr.length
        · obtain ⟨g1, o1, c1, hv1, _, hc1⟩ := (HD1.out.no JJ.out.kp).cellAt (by omega)
          obtain ⟨g2, o2, c2, hv2, _, hc2⟩ := (HD2.out.no JJ.out.kp).cellAt (by omega)
          cases hv1
          cases hv2
          have d1 := hc1 jj (natV (fr.getD jj 0)) (by simp [hjl])
          have d2 := hc2 jj (natV (tg.getD jj 0)) (by simp [hn2, hjl])
          unfold natV at d1 d2
          have hjli : (jj : Int) < fr.length := by omega
          obtain ⟨hu, ht⟩ := LT.out jj hjl
          have hk64 := BLT.out _ _ _ hb
          have hst := STEP.out _ _ _ hjl hb
          clear hc1 hc2 hj hb
          generalize fr.getD jj 0 = u at *
          generalize tg.getD jj 0 = t at *
          have hp := shl_pow (n := u) (by omega)
          have h0 : (0 : Int) ≤ u := by omega
          have h1 : (u : Int) < 64 := by omega
          have h2 : (0 : Int) ≤ t := by omega
          have h3 : (t : Int) < 64 := by omega
          have hc6 := clr_64 ⟨k, hk64⟩ ⟨u, by omega⟩
          have hsc := sbt_clr ⟨k, hk64⟩ ⟨u, by omega⟩
          obtain ⟨ha, _⟩ := clr_fin ⟨k, hk64⟩ ⟨u, by omega⟩
          simp only at hc6 hsc
          obtain ⟨_, ho⟩ := clr_fin ⟨clr k u, hc6⟩ ⟨u, by omega⟩
          simp only at ha ho
          rw [hsc] at ho
          have hbit := bit_at (i := i) (v := t) (by omega) (by omega)
          clear hsc
          cases hbt : i.testBit t with
          | false =>
            rw [hbt] at hbit hst
            have JN : Hid (RnK n i fr tg wr (fr.length - (jj + 1)) (.int .i64 (clr k u : Int)) (.int .i64 ((jj + 1 : Nat) : Int)) wr) := Lib.hid ⟨jj + 1, clr k u, by omega, rfl, rfl, hst, rfl⟩
            clear hst ho hbt
            generalize clr k u = k1 at *
            go_wp2_with fail
            go_roundg (fr.length - (jj + 1))
            case measure => have := HJ.out; omega
            case rel => exact JN.out
          | true =>
            rw [hbt] at hbit hst
            have JN : Hid (RnK n i fr tg wr (fr.length - (jj + 1)) (.int .i64 (sbt k u : Int)) (.int .i64 ((jj + 1 : Nat) : Int)) wr) := Lib.hid ⟨jj + 1, sbt k u, by omega, rfl, rfl, hst, rfl⟩
            clear hst hbt
            generalize sbt k u = k2 at *
            generalize clr k u = k1 at *
            go_wp2_with fail
            go_roundg (fr.length - (jj + 1))
            case measure => have := HJ.out; omega
            case rel => exact JN.out
        · obtain rfl : jj = fr.length := by omega
          obtain ⟨hkN, ck⟩ := CELL'.out _ JJ.out.kp _ _ hb
          obtain ⟨c1, z1⟩ := JJ.out.cell hlt
          have JN := Lib.hid (JJ.out.put hlt)
          have hkNi : (k : Int) < N := by omega
          have hge : ¬ (fr.length : Int) < fr.length := by omega
          clear hj hb hjl
          generalize T i = b at *
          go_wp2_with fail
          go_roundg (N - (i + 1))
          case measure => have := HI.out; omega
          case rel => exact ⟨i + 1, by have := HI.out; omega, by go_num, JN.out⟩
    · have hkn : i = N := by omega
      subst hkn
      have J := Lib.hid (FIN.out wr j)
      have hlti : ¬ (i : Int) < i := by omega
      clear j hi hlt
      go_wp2_with fail
      go_ret
      exact J.out

/-! ### lists that are refused -/
theorem distB_nats {m : List Nat} : distB (m.map Int.ofNat) = true ↔ m.Nodup := by
  unfold distB
  rw [decide_eq_true_iff, List.nodup_iff_pairwise_ne, List.nodup_iff_pairwise_ne, List.pairwise_map]
  constructor
  · exact fun h => h.imp (fun hne e => hne (by rw [e]))
  · exact fun h => h.imp (fun hne e => hne (Int.ofNat.inj e))
set_option maxRecDepth 100000 in
theorem Rename_bad {p n c : Nat} {M : Mgr} {L : Lay} {w : World} {B : List (Int × Bfn)} {f : Int} (hn : n ≤ 6) (R : Rep w p M L) (b : Qk n c M B) (hf : M.valid f = true) (l1 l2 : List Int) (hl1 : l1.length ≤ 1000000) (hl2 : l2.length ≤ 1000000) {v1 v2 : Value} (hd1 : SrcAt w v1 1 l1.length (l1.map intV)) (hd2 : SrcAt w v2 1 l2.length (l2.map intV))
    (hbad : ¬ (l1.length = l2.length ∧ varsB n l1 = true ∧ varsB n l2 = true ∧ distB l1 = true)) :
    Calls Try.prog 22 #[ptr p, .int .i64 f, v1, v2] w fun e w' => e = .returned (.int .i64 (-1)) ∧ Kp No w w' := by
  have VF := Lib.hid (valid_as f true R hf)
  have V1 := Lib.hid (variables_ok l1 hl1 R hd1)
  have V2 := Lib.hid (variables_ok l2 hl2 R hd2)
  rw [b.nn] at V1 V2
  have RPT : Hid (∀ fr : List Nat, l1 = fr.map Int.ofNat → (∀ v, v ∈ fr → v < n) → Calls Try.prog 62 #[ptr p, v1] w fun e w' => e = .returned (.bool (!distB l1)) ∧ Kp No w w') := Lib.hid (fun fr e hfr => by
    refine repeats_ok fr (by rw [e, List.length_map] at hl1; exact hl1) (by rw [b.nn]; exact hfr) R (by rw [b.nn]; omega) (by rw [e] at hd1; exact hd1.nats) _ ?_
    rw [e, Bool.not_eq_true', ← Bool.not_eq_true, distB_nats])
  have hle1 : (l1.length : Int) ≤ 1000000 := by omega
  have hle2 : (l2.length : Int) ≤ 1000000 := by omega
  obtain ⟨ao, cp, rfl⟩ := hd1.form
  obtain ⟨bo, dp, rfl⟩ := hd2.form
  clear R hd1 hd2 b hl1 hl2
  by_cases hlen : l1.length = l2.length
  · have hleni : (l1.length : Int) = (l2.length : Int) := by omega
    have e1 : ((l1.length : Int) != (l2.length : Int)) = false := by simp [hleni]
    have e2 : ((l1.length : Int) == (l2.length : Int)) = true := by simp [hleni]
    cases hv1 : varsB n l1
    · rw [hv1] at V1
      clear hbad hlen hleni RPT
      go_enter Try.func22, Try.ntmps22
      go_wp2_with fail
      refine VF.out.mono ?_
      rintro e w' ⟨rfl, rfl⟩
      go_wp2_with fail
      refine V1.out.mono ?_
      rintro e w' ⟨rfl, rfl⟩
      go_wp2_with fail
      go_ret
      exact ⟨rfl, Kp.refl _ _⟩
    · rw [hv1] at V1
      cases hv2 : varsB n l2
      · rw [hv2] at V2
        clear hbad hlen hleni RPT
        go_enter Try.func22, Try.ntmps22
        go_wp2_with fail
        refine VF.out.mono ?_
        rintro e w' ⟨rfl, rfl⟩
        go_wp2_with fail
        refine V1.out.mono ?_
        rintro e w' ⟨rfl, rfl⟩
        go_wp2_with fail
        refine V2.out.mono ?_
        rintro e w' ⟨rfl, rfl⟩
        go_wp2_with fail
        go_ret
        exact ⟨rfl, Kp.refl _ _⟩
      · rw [hv2] at V2
        have hd : distB l1 = false := by
          cases h : distB l1
          · rfl
          · exact (hbad ⟨hlen, hv1, hv2, h⟩).elim
        obtain ⟨fr, hfr1, hfr2⟩ := varsB_nat hv1
        have RP := Lib.hid (RPT.out fr hfr1 hfr2)
        rw [hd] at RP
        clear hbad hlen hleni RPT hfr1 hfr2 hv1 hv2
        go_enter Try.func22, Try.ntmps22
        go_wp2_with fail
        refine VF.out.mono ?_
        rintro e w' ⟨rfl, rfl⟩
        go_wp2_with fail
        refine V1.out.mono ?_
        rintro e w' ⟨rfl, rfl⟩
        go_wp2_with fail
        refine V2.out.mono ?_
        rintro e w' ⟨rfl, rfl⟩
        go_wp2_with fail
        refine RP.out.mono ?_
        rintro e w' ⟨rfl, kr⟩
        have KR := Lib.hid kr
        clear kr
        go_wp2_with fail
        go_ret
        exact ⟨rfl, KR.out⟩
  · have hleni : ¬ (l1.length : Int) = (l2.length : Int) := by omega
    have e1 : ((l1.length : Int) != (l2.length : Int)) = true := by simp [hleni]
    have e2 : ((l1.length : Int) == (l2.length : Int)) = false := by simp [hleni]
    clear hbad hlen RPT
    go_enter Try.func22, Try.ntmps22
    go_wp2_with fail
    refine VF.out.mono ?_
    rintro e w' ⟨rfl, rfl⟩
    go_wp2_with fail
    go_ret
    exact ⟨rfl, Kp.refl _ _⟩

end Go.Proofs.Ytohinonkfhkclaa
