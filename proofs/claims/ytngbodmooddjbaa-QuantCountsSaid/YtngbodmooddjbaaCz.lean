/-
  Walks: 'Count' of the package quant at any number of variables.
-/
import Derived.Test.YtngbodmooddjbaaCq
import Derived.Test.YtngbodmooddjbaaVz
namespace Go.Proofs.Ytngbodmooddjbaa
open Go.RowKit

set_option maxRecDepth 100000 in
set_option maxHeartbeats 4000000 in
theorem Count_all {p : Nat} {M : Mgr} {L : Lay} (f : Nat) (vs : List Nat) (hl : vs.length ≤ 127) (h0 : 0 < M.n) (hlv : ∀ v, v ∈ vs → v < M.n) (nd : vs.Nodup) (sf : M.stored f) (hf : M.valid (f : Int) = true) (hsup : ∀ v, v ∈ M.supM (f : Int) → v ∈ vs) {dv : Value} {w : World} (R : Rep w p M L) (hn : M.n ≤ 256) (hd : SrcAt w dv 1 vs.length (vs.map natV)) :
    Calls Try.prog 48 #[ptr p, .int .i64 (f : Int), dv] w fun e w' => e = .returned (.tuple #[.int .u64 ((cntL (M.sem f) vs / 2 ^ 64 : Nat) : Int), .int .u64 ((cntL (M.sem f) vs % 2 ^ 64 : Nat) : Int), .int .i64 0]) ∧ Kp No w w' := by
  obtain ⟨i0, hi0, hz0, hz1, hz2⟩ := info_parts info_int
  have CM := Lib.hid (complete_ok (f : Int) vs (by omega) hlv hf R hn hd true ⟨fun _ => ⟨nd, hsup⟩, fun _ => rfl⟩)
  have LVL := Lib.hid (fun (y : World) (ky : Kp No w y) => levels_ok (R.no ky) hn)
  have VAR := Lib.hid (fun (y : World) (ky : Kp No w y) => vars_ok (R.no ky))
  unfold natV at VAR
  have HD : Hid (∀ y, Kp No w y → SrcAt y dv 1 vs.length (vs.map natV)) := Lib.hid (fun y ky => hd.no ky)
  obtain ⟨ao, cp, rfl⟩ := hd.form
  have RR := Lib.hid R
  have LV := Lib.hid hlv
  have hli : (vs.length : Int) ≤ 127 := by omega
  have hmm := @run_makeMap Try.prog
  have SRT := Lib.hid (fun (y : World) (Bs bx gl c : Nat) (sv : Value) (lev : Nat → Nat) (h1 : Bs < y.heap.size) h2 h3 h4 h5 h6 h7 => SortedFunc_any Bs bx gl M.n c sv lev vs hlv (by omega) (w := y) h1 h2 h3 h4 h5 h6 h7)
  have HN := Lib.hid hn
  obtain ⟨HH, LL, EH, EL, EN⟩ : ∃ HH LL : Nat, cntL (M.sem f) vs / 2 ^ 64 = HH ∧ cntL (M.sem f) vs % 2 ^ 64 = LL ∧ numV (cntL (M.sem f) vs) = .agg #[.int .u64 (HH : Int), .int .u64 (LL : Int)] := ⟨_, _, rfl, rfl, rfl⟩
  rw [EH, EL]
  have ENH := Lib.hid EN
  clear EH EL EN
  go_enter Try.func48, Try.ntmps48
  go_wp2_with fail
  refine CM.out.mono ?_
  rintro e w1 ⟨rfl, k1⟩
  have L1 := Lib.hid (LVL.out w1 k1)
  have K1 := Lib.hid k1
  clear k1 CM LVL
  go_wp2_with fail
  refine L1.out.mono ?_
  rintro e w2 ⟨gl, rfl, r2, k2⟩
  have R2 := Lib.hid r2
  have K2 := Lib.hid (K1.out.trans_no k2)
  clear r2 k2 L1
  go_wp2_with fail
  refine (Values_ok _ _ _ _).mono ?_
  rintro e w3 ⟨rfl, rfl⟩
  go_wp2_with fail
  have kx : Kp No w2 ((w2.alloc (.cells #[.slice (some ⟨gl, 0, none⟩) M.n M.n] 33)).alloc (.cells #[.slice ao vs.length cp] 33)) := (Kp.alloc _).trans_no (Kp.alloc _)
  have r3 := ownsRow_kp R2.out kx (fun _ _ z => z)
  obtain ⟨gl', cl', hvl, _, _, _, hcl, _⟩ := ownsRow_open r3 h0
  cases hvl
  have SC := Lib.hid (SRT.out ((w2.alloc (.cells #[.slice (some ⟨gl, 0, none⟩) M.n M.n] 33)).alloc (.cells #[.slice ao vs.length cp] 33)) (w2.heap.size + 1) w2.heap.size gl M.n (.slice ao vs.length cp) M.lev (by simp) (by
      have := heap_alloc_new (w2.alloc (.cells #[.slice (some ⟨gl, 0, none⟩) M.n M.n] 33)) (.cells #[.slice ao vs.length cp] 33)
      rw [World.size_alloc] at this
      rw [cell_of_row _ _ _ _ _ _ this]; rfl) (HD.out _ (K2.out.trans_no kx)) (by simp; omega) (r3.lt gl rfl).2 (by
      have : ((w2.alloc (.cells #[.slice (some ⟨gl, 0, none⟩) M.n M.n] 33)).alloc (.cells #[.slice ao vs.length cp] 33)).heap[w2.heap.size]? = some (.cells #[.slice (some ⟨gl, 0, none⟩) M.n M.n] 33 (0, 0)) := by
        rw [(Kp.alloc (w := w2.alloc (.cells #[.slice (some ⟨gl, 0, none⟩) M.n M.n] 33)) (.cells #[.slice ao vs.length cp] 33)).block _ (by simp) (fun z => z)]
        exact heap_alloc_new _ _
      rw [cell_of_row _ _ _ _ _ _ this]; rfl) (fun v hv => hcl v _ (by rw [List.getElem?_map, List.getElem?_range hv]; rfl)))
  have KX := Lib.hid (K2.out.trans_no kx)
  clear kx r3 hcl SRT R2 K2 K1
  refine SC.out.mono ?_
  rintro e w4 ⟨a4, c4, ss, rfl, perm, pw, r4, k4⟩
  have K4 := Lib.hid (KX.out.trans_no k4)
  have hsl : ss.length = vs.length := perm.length_eq
  have ndS : ss.Nodup := perm.nodup_iff.2 nd
  have SRTD : Hid (Srt M ss) := Lib.hid ((pw.and ndS).imp_of_mem (fun {x y} hx hy h => by
    have h3 : M.lev x ≠ M.lev y := fun e => h.2 (Mgr.lev_inj RR.out.wf (LV.out _ (perm.mem_iff.1 hx)) (LV.out _ (perm.mem_iff.1 hy)) e)
    have := h.1; omega))
  have PERM := Lib.hid perm
  have NDS := Lib.hid ndS
  rw [← hsl] at r4
  have S4 : Hid (∀ y, Kp No w4 y → SrcAt y (.slice a4 vs.length c4) 1 ss.length (ss.map natV)) := Lib.hid (fun y ky => by rw [← hsl]; exact (SrcAt.of_row r4).no ky)
  have V4 := Lib.hid (VAR.out w4 K4.out)
  obtain ⟨w5, hmk, q1, q2⟩ := run_make_full (P := Try.prog) w4 w4.heap.size 33 3 i0 _ 1 Try.underlying33 hi0 hz0 hz1 .i64 .i64 M.n (by rw [hz2]; omega) (by rw [maxLen_val]; omega) (Nat.le_refl _)
  rw [made_zero, ← posRow_zero M.n ss] at q1
  have k5 : Kp No w4 w5 := (Kp.grown q2).mono (fun k _ e => by cases e)
  have hs5 : w4.heap.size < w5.heap.size := (q1.lt _ rfl).2
  have JA : Hid (CqR w4 p (w5.heap.size + 1) w5.heap.size w4.heap.size M.n ss ss.length (.int .i64 0) ((w5.alloc (.map #[] 0)).alloc (.cells (cnCells p w4.heap.size M.n M.n ss.length w5.heap.size) 150))) := Lib.hid ⟨0, by omega, rfl, by
    refine ⟨?_, ?_, ?_, (k5.trans_no (Kp.alloc _)).trans_no (Kp.alloc _)⟩
    · have := heap_alloc_new (w5.alloc (.map #[] 0)) (.cells (cnCells p w4.heap.size M.n M.n ss.length w5.heap.size) 150)
      simpa using this
    · rw [Below.heap_alloc _ _ _ (by simp)]; exact heap_alloc_new _ _
    · exact ownsRow_kp q1 ((Kp.alloc _).trans_no (Kp.alloc _)) (fun _ _ z => z)⟩
  clear perm pw r4 k4 ndS SC KX q1 q2 VAR
  go_wp2_with fail
  refine V4.out.mono ?_
  rintro e w' ⟨rfl, rfl⟩
  clear V4
  rw [hsl] at JA
  unfold cnCells at JA
  go_wp2_with fail
  go_loopg [40] ss.length (fun gk s x => CqR w4 p (w5.heap.size + 1) w5.heap.size w4.heap.size M.n ss gk s x)
  case atStart => rw [hsl]; exact JA.out
  case round =>
    clear JA
    obtain ⟨i, hi, rfl, j⟩ := hrel
    by_cases hlt : i < ss.length
    · obtain ⟨g1, o1, c1, hv1, _, hcell⟩ := (S4.out wr j.kp).cellAt (by omega)
      have hv2 : a4 = some ⟨g1, o1, none⟩ := by injection hv1
      subst hv2
      have hc := hcell i (natV ss[i]) (by simp [hlt])
      unfold natV at hc
      have hvn : ss[i] < M.n := LV.out _ (PERM.out.mem_iff.1 (List.getElem_mem hlt))
      obtain ⟨_, _, hv3, _, _, _, hcr, hzr⟩ := ownsRow_open j.row (by omega)
      cases hv3
      have hlen : ss[i] < (posRow M.n ss i).length := by unfold posRow; simp; exact hvn
      have co := hcr ss[i] (posRow M.n ss i)[ss[i]] (List.getElem?_eq_getElem hlen)
      have cz := hzr ss[i]
      have q1 : wr.cell? ⟨w5.heap.size + 1, 1, none⟩ = some (.slice (some ⟨w4.heap.size, 0, none⟩) M.n M.n) := by rw [cell_of_row _ _ _ _ _ _ j.str]; rfl
      have lq := heap_lt j.str
      have lg := (j.row.lt w4.heap.size rfl).2
      have HI := Lib.hid hi
      have JN : Hid (CqR w4 p (w5.heap.size + 1) w5.heap.size w4.heap.size M.n ss (ss.length - (i + 1)) (.int .i64 ((i + 1 : Nat) : Int)) (wr.setCell ⟨w4.heap.size, ss[i], none⟩ (natV i))) := Lib.hid ⟨i + 1, by omega, rfl, by
        refine ⟨?_, ?_, ?_, j.kp.trans (A' := fun z => z = w4.heap.size) (fun z e => .inr (by omega)) ((Kp.setCell _ _).mono (fun _ _ e => e))⟩
        · rw [Below.heap_setCell _ _ _ _ (by show w5.heap.size + 1 ≠ w4.heap.size; omega)]; exact j.str
        · rw [Below.heap_setCell _ _ _ _ (by show w5.heap.size ≠ w4.heap.size; omega)]; exact j.mp
        · have := ownsRow_put j.row ss[i] (natV i)
          rw [posRow_set NDS.out hlt] at this
          exact this⟩
      unfold natV at JN
      generalize (posRow M.n ss i)[ss[i]] = old at *
      have hlti : (i : Int) < vs.length := by omega
      have hvi : (ss[i] : Int) < (M.n : Int) := by omega
      clear hcell hv1 hi j hcr hzr hlen hvn
      generalize ss[i] = y at *
      go_wp2_with fail
      go_roundg (ss.length - (i + 1))
      case measure => have := HI.out; omega
      case rel => exact JN.out
    · obtain rfl : i = ss.length := by omega
      have hge : ¬ (vs.length : Int) < vs.length := by omega
      have wf := RR.out.wf
      have vi : VarsIn M ss f := vars_in wf sf hf (fun v hv => PERM.out.mem_iff.2 (hsup v hv))
      have hws : w.heap.size ≤ w4.heap.size := K4.out.size
      have CS : Hid (CtS wr p L (w5.heap.size + 1) w5.heap.size w4.heap.size M.n M.n M ss wr) := Lib.hid ⟨RR.out.no (K4.out.trans_no j.kp), Kp.refl _ _, j.str, ⟨(j.row.lt w4.heap.size rfl).2, fun v hv => by
        obtain ⟨_, _, hv3, _, _, _, hcr, _⟩ := ownsRow_open j.row h0
        cases hv3
        refine hcr v _ ?_
        unfold posRow
        rw [List.getElem?_map, List.getElem?_range (LV.out _ (PERM.out.mem_iff.1 hv)), List.take_length]
        simp only [Option.map_some, hv, if_true]; rfl⟩, ⟨fun _ => none, ⟨#[], 0, j.mp, [], by simp, fun k => rfl⟩, fun x N h => by cases h⟩, by omega, fun h => by have := RR.out.lt _ h; omega⟩
      have CO := Lib.hid (count_ok SRTD.out (by omega) (fun v hv => LV.out _ (PERM.out.mem_iff.1 hv)) (M.n + 1) f wr CS.out sf vi (by omega))
      have PO := Lib.hid (fun (y : World) (t : CtS wr p L (w5.heap.size + 1) w5.heap.size w4.heap.size M.n M.n M ss y) => place_ok f t sf (fun v hv => LV.out _ (PERM.out.mem_iff.1 hv)) (fun h => vi 1 f ⟨h, .inl rfl⟩))
      obtain ⟨hle, hall⟩ := cnM_all wf SRTD.out sf vi
      have hlt2 : cntL (M.sem f) ss < 2 ^ 128 := Nat.lt_of_le_of_lt (cntL_le ss (M.sem f)) (Nat.pow_lt_pow_right (by decide) (by omega))
      have SH := Lib.hid (fun (y : World) => shift_ok (cnM M ss f) (plc M ss f) (by omega) (by rw [hall]; exact hlt2) y)
      rw [hall, cntL_perm PERM.out] at SH
      have KJ := Lib.hid (K4.out.trans_no j.kp)
      have LB : Hid (w.heap.size ≤ w5.heap.size) := Lib.hid (by omega)
      have hge : ¬ (vs.length : Int) < vs.length := by omega
      rw [ENH.out] at SH
      clear hall hlt2 hle vi wf hi j
      rw [hsl]
      go_wp2_with fail
      refine CO.out.mono ?_
      rintro e w6 ⟨rfl, t6⟩
      have T6 := Lib.hid t6
      clear t6 CO
      go_wp2_with fail
      refine (PO.out w6 T6.out).mono ?_
      rintro e w7 ⟨rfl, k7⟩
      have T7 := Lib.hid (T6.out.no k7)
      clear k7 PO T6
      go_wp2_with fail
      refine (SH.out w7).mono ?_
      rintro e w8 ⟨rfl, k8⟩
      have KF : Hid (Kp No w w8) := Lib.hid ((KJ.out.trans (A' := fun z => z = w5.heap.size) (fun z e => .inr (by have := LB.out; omega)) T7.out.kp).trans_no k8)
      clear k8 SH T7
      go_upto_region 14 with fail
      go_region
      go_wp2_with fail
      refine bodyPost_ret (v := .tuple #[.int .u64 (HH : Int), .int .u64 (LL : Int), .int .i64 0]) (by simp [results, Try.results48, go_sem]) rfl ⟨rfl, (KF.out.trans_no (Kp.alloc _)).trans_no (Kp.drewN 1)⟩

end Go.Proofs.Ytngbodmooddjbaa
