/-
  Walks: 'complete' of the package quant.
-/
import Derived.Test.YtngbodmooddjbaaRm
namespace Go.Proofs.Ytngbodmooddjbaa
open Go.RowKit

def CmR1 (w : World) (n g : Nat) (l : List Nat) (gk : Nat) (s : Value) (x : World) : Prop := ∃ i, i + gk = l.length ∧ s = .int .i64 (i : Int) ∧ InJ w n g (l.take i) x
def CmR2 (w : World) (vs sup : List Nat) (gk : Nat) (s : Value) (x : World) : Prop := ∃ i, i + gk = sup.length ∧ s = .int .i64 (i : Int) ∧ Kp No w x ∧ ∀ v, v ∈ sup.take i → v ∈ vs

set_option maxRecDepth 100000 in
set_option maxHeartbeats 2000000 in
theorem complete_ok {p : Nat} {M : Mgr} {L : Lay} (f : Int) (vs : List Nat) (hl : vs.length ≤ 1000000) (hlv : ∀ v, v ∈ vs → v < M.n) (hf : M.valid f = true) {dv : Value} {w : World} (R : Rep w p M L) (hn : M.n ≤ 256) (hd : SrcAt w dv 1 vs.length (vs.map natV)) (b : Bool) (hb : b = true ↔ vs.Nodup ∧ ∀ v, v ∈ M.supM f → v ∈ vs) :
    Calls Try.prog 93 #[ptr p, .int .i64 f, dv] w fun e w' => e = .returned (.bool b) ∧ Kp No w w' := by
  have VF := Lib.hid (valid_as f true R hf)
  have V1 := Lib.hid (variables_ok (vs.map Int.ofNat) (by rw [List.length_map]; exact hl) R (dv := dv) (by rw [List.length_map, natInt]; exact hd))
  rw [varsB_of hlv] at V1
  have HD : Hid (∀ y, Kp No w y → SrcAt y dv 1 vs.length (vs.map natV)) := Lib.hid (fun y ky => hd.no ky)
  by_cases nd : vs.Nodup
  case neg =>
    obtain rfl : b = false := by
      cases b
      · rfl
      · exact (nd (hb.1 rfl).1).elim
    have RP := Lib.hid (repeats_ok vs hl hlv R hn hd true ⟨fun _ => nd, fun _ => rfl⟩)
    obtain ⟨ao, cp, rfl⟩ := hd.form
    clear hd hb nd hlv hf R HD
    go_enter Try.func93, Try.ntmps93
    go_wp2_with fail
    refine VF.out.mono ?_
    rintro e w' ⟨rfl, rfl⟩
    go_wp2_with fail
    refine V1.out.mono ?_
    rintro e w' ⟨rfl, rfl⟩
    go_wp2_with fail
    refine RP.out.mono ?_
    rintro e w1 ⟨rfl, k1⟩
    have K1 := Lib.hid k1
    clear k1
    go_wp2_with fail
    go_ret
    exact ⟨rfl, K1.out⟩
  have RP := Lib.hid (repeats_ok vs hl hlv R hn hd false ⟨fun h => (by cases h), fun h => absurd nd h⟩)
  have VARS := Lib.hid (fun (y : World) (ky : Kp No w y) => vars_ok (R.no ky))
  unfold natV at VARS
  have SUP := Lib.hid (fun (y : World) (ky : Kp No w y) => Support_ok f (R.no ky) hn)
  have SL := Lib.hid (M.supM_len f)
  have SV : Hid (∀ v, v ∈ M.supM f → v < M.n) := Lib.hid (fun v hv => by
    unfold Mgr.supM at hv
    rw [if_pos hf] at hv
    exact (Mgr.mem_supp.1 hv).1)
  obtain ⟨ao, cp, rfl⟩ := hd.form
  have HB : Hid (b = true ↔ ∀ v, v ∈ M.supM f → v ∈ vs) := Lib.hid ⟨fun h => (hb.1 h).2, fun h => hb.2 ⟨nd, h⟩⟩
  have LV := Lib.hid hlv
  have MK := Lib.hid (fun (y : World) => InJ.start y M.n hn)
  have hli : (vs.length : Int) ≤ 1000000 := by omega
  have hni : (M.n : Int) ≤ 256 := by omega
  have HN := Lib.hid hn
  clear hd hb nd hlv hf R hn
  generalize M.supM f = sup at *
  generalize M.n = n at *
  go_enter Try.func93, Try.ntmps93
  go_wp2_with fail
  refine VF.out.mono ?_
  rintro e w' ⟨rfl, rfl⟩
  go_wp2_with fail
  refine V1.out.mono ?_
  rintro e w' ⟨rfl, rfl⟩
  go_wp2_with fail
  refine RP.out.mono ?_
  rintro e w1 ⟨rfl, k1⟩
  have K1 := Lib.hid k1
  have VW := Lib.hid (VARS.out w1 k1)
  obtain ⟨w2, hmk, J1⟩ := MK.out w1
  clear k1 VF V1 RP VARS MK
  go_wp2_with fail
  refine VW.out.mono ?_
  rintro e w' ⟨rfl, rfl⟩
  clear VW
  have JA : Hid (CmR1 w1 n w1.heap.size vs vs.length (.int .i64 0) w2) := Lib.hid ⟨0, by omega, rfl, J1.out⟩
  clear J1
  go_wp2_with fail
  clear hmk
  go_loopg [32] vs.length (fun gk s x => CmR1 w1 n w1.heap.size vs gk s x)
  case atStart => exact JA.out
  case round =>
    clear JA
    obtain ⟨i, hi, rfl, j⟩ := hrel
    by_cases hlt : i < vs.length
    · obtain ⟨g1, o1, c1, hv1, _, hcell⟩ := (HD.out wr (K1.out.trans_no j.kp)).cellAt (by omega)
      have hv2 : ao = some ⟨g1, o1, none⟩ := by injection hv1
      subst hv2
      have hc := hcell i (natV (vs.getD i 0)) (by simp [hlt])
      unfold natV at hc
      have hmem : vs.getD i 0 ∈ vs := by rw [List.getD_eq_getElem?_getD, List.getElem?_eq_getElem hlt]; exact List.getElem_mem hlt
      have hvn := LV.out _ hmem
      obtain ⟨cu, zu⟩ := j.cell hvn
      have hlti : (i : Int) < vs.length := by omega
      have ho : (vs.getD i 0 : Int) < n := by omega
      have hwlt : w1.heap.size < wr.heap.size := j.ge.2
      have HI := Lib.hid hi
      have et : vs.take (i + 1) = vs.take i ++ [vs.getD i 0] := by rw [List.take_succ_eq_append_getElem hlt]; simp [hlt]
      have JN : Hid (CmR1 w1 n w1.heap.size vs (vs.length - (i + 1)) (.int .i64 ((i + 1 : Nat) : Int)) (wr.setCell ⟨w1.heap.size, vs.getD i 0, none⟩ (.bool true))) := Lib.hid ⟨i + 1, by omega, rfl, by rw [et]; exact j.put _⟩
      generalize decide (vs.getD i 0 ∈ vs.take i) = old at *
      clear hcell hv1 hi j et hmem hvn
      generalize vs.getD i 0 = y at *
      go_wp2_with fail
      go_roundg (vs.length - (i + 1))
      case measure => have := HI.out; omega
      case rel => exact JN.out
    · obtain rfl : i = vs.length := by omega
      rw [List.take_length] at j
      have hge : ¬ (vs.length : Int) < vs.length := by omega
      generalize wr = wq at *
      have KX := Lib.hid (K1.out.trans_no j.kp)
      have SU := Lib.hid (SUP.out wq (K1.out.trans_no j.kp))
      have CELL : Hid (∀ y, Kp No wq y → w1.heap.size < y.heap.size ∧ ∀ v, v < n → y.cell? ⟨w1.heap.size, v, none⟩ = some (.bool (decide (v ∈ vs)))) := Lib.hid (fun y ky => by
        have hr := ownsRow_kp j.row ky (fun _ _ z => z)
        have jy : InJ w1 n w1.heap.size vs y := ⟨hr, j.kp.trans_no ky⟩
        exact ⟨jy.ge.2, fun v hv => (jy.cell hv).1⟩)
      clear hi j hlt SUP
      go_wp2_with fail
      refine SU.out.mono ?_
      rintro e w3 ⟨v3, rfl, r3, k3⟩
      obtain ⟨a3, c3, rfl⟩ := rowForm r3
      have S3 : Hid (∀ y, Kp No w3 y → SrcAt y (.slice a3 sup.length c3) 1 sup.length (sup.map natV)) := Lib.hid (fun y ky => (SrcAt.of_row r3).no ky)
      have K3 := Lib.hid k3
      have hsl : (sup.length : Int) ≤ 256 := by have := SL.out; have := HN.out; omega
      have JB : Hid (CmR2 w3 vs sup sup.length (.int .i64 0) w3) := Lib.hid ⟨0, by omega, rfl, Kp.refl _ _, fun v hv => by simp at hv⟩
      clear r3 k3 SU
      go_wp2_with fail
      go_loopg [44] sup.length (fun gk s x => CmR2 w3 vs sup gk s x)
      case atStart => exact JB.out
      case round =>
        clear JB
        obtain ⟨i, hi, rfl, ky, hall⟩ := hrel
        by_cases hlt : i < sup.length
        · obtain ⟨g1, o1, c1, hv1, _, hcell⟩ := (S3.out wr ky).cellAt (by omega)
          have hv2 : a3 = some ⟨g1, o1, none⟩ := by injection hv1
          subst hv2
          have hc := hcell i (natV (sup.getD i 0)) (by simp [hlt])
          unfold natV at hc
          have hmem : sup.getD i 0 ∈ sup := by rw [List.getD_eq_getElem?_getD, List.getElem?_eq_getElem hlt]; exact List.getElem_mem hlt
          have hvn := SV.out _ hmem
          obtain ⟨hwlt, hcu⟩ := CELL.out _ (K3.out.trans_no ky)
          have cu := hcu _ hvn
          have hlti : (i : Int) < sup.length := by omega
          have ho : (sup.getD i 0 : Int) < n := by omega
          have HI := Lib.hid hi
          have et : sup.take (i + 1) = sup.take i ++ [sup.getD i 0] := by rw [List.take_succ_eq_append_getElem hlt]; simp [hlt]
          by_cases hin : sup.getD i 0 ∈ vs
          · have JN : Hid (CmR2 w3 vs sup (sup.length - (i + 1)) (.int .i64 ((i + 1 : Nat) : Int)) wr) := Lib.hid ⟨i + 1, by omega, rfl, ky, fun v hv => by
              rw [et] at hv
              rcases List.mem_append.1 hv with h | h
              · exact hall v h
              · rw [List.mem_singleton.1 h]; exact hin⟩
            rw [decide_eq_true hin] at cu
            clear hcell hv1 hi et hmem hvn hin hall ky hcu
            generalize sup.getD i 0 = y at *
            go_wp2_with fail
            go_roundg (sup.length - (i + 1))
            case measure => have := HI.out; omega
            case rel => exact JN.out
          · obtain rfl : b = false := by
              cases b
              · rfl
              · exact (hin (HB.out.1 rfl _ hmem)).elim
            have KF := Lib.hid ((KX.out.trans_no K3.out).trans_no ky)
            rw [decide_eq_false hin] at cu
            clear hcell hv1 hi et hmem hvn hin hall ky hcu
            generalize sup.getD i 0 = y at *
            go_wp2_with fail
            go_ret
            exact ⟨rfl, KF.out⟩
        · obtain rfl : i = sup.length := by omega
          rw [List.take_length] at hall
          obtain rfl : b = true := HB.out.2 hall
          have KF := Lib.hid ((KX.out.trans_no K3.out).trans_no ky)
          have hge : ¬ (sup.length : Int) < sup.length := by omega
          clear hi hlt hall ky
          go_wp2_with fail
          go_ret
          exact ⟨rfl, KF.out⟩

end Go.Proofs.Ytngbodmooddjbaa
