/-
  'counted': Count and Least against the truth table.
-/
import Derived.Test.YtngbodmooddjbaaQh
import Derived.Test.YtngbodmooddjbaaQv
import Derived.Test.YtngbodmooddjbaaQm
import Derived.Test.YtngbodmooddjbaaLo
namespace Go.Proofs.Ytngbodmooddjbaa
open Go.RowKit

section
variable {p n c : Nat} {M : Mgr} {L : Lay} {w : World} {B : List (Int × Bfn)} {f : Int} {F : Bfn}
set_option maxRecDepth 100000 in
theorem complete_any (R : Rep w p M L) (hn : M.n ≤ 256) (hf : M.valid f = true) (ls : List Int) (hl : ls.length ≤ 1000000) {dv : Value} (hd : SrcAt w dv 1 ls.length (ls.map intV)) (b : Bool) (hb : b = true ↔ varsB M.n ls = true ∧ ls.Nodup ∧ ∀ v, v ∈ M.supM f → (v : Int) ∈ ls) :
    Calls Try.prog 93 #[ptr p, .int .i64 f, dv] w fun e w' => e = .returned (.bool b) ∧ Kp No w w' := by
  cases hv : varsB M.n ls with
  | true =>
    obtain ⟨fr, rfl, hfr⟩ := varsB_nat hv
    refine complete_ok f fr (by rw [List.length_map] at hl; exact hl) hfr hf R hn hd.nats b ?_
    rw [hb, hv]
    constructor
    · rintro ⟨_, h2, h3⟩
      refine ⟨distB_nats.1 (decide_eq_true h2), fun v hv => ?_⟩
      obtain ⟨u, hu, e⟩ := List.mem_map.1 (h3 v hv)
      rw [← Int.ofNat.inj e]; exact hu
    · rintro ⟨h2, h3⟩
      exact ⟨rfl, of_decide_eq_true (distB_nats.2 h2), fun v hv => List.mem_map.2 ⟨v, h3 v hv, rfl⟩⟩
  | false =>
    obtain rfl : b = false := by
      cases b
      · rfl
      · have := (hb.1 rfl).1; rw [hv] at this; cases this
    have VF := Lib.hid (valid_as f true R hf)
    have V1 := Lib.hid (variables_ok ls hl R hd)
    rw [hv] at V1
    obtain ⟨ao, cp, rfl⟩ := hd.form
    clear R hd hb hv
    go_enter Try.func93, Try.ntmps93
    go_wp2_with fail
    refine VF.out.mono ?_
    rintro e w' ⟨rfl, rfl⟩
    go_wp2_with fail
    refine V1.out.mono ?_
    rintro e w' ⟨rfl, rfl⟩
    go_wp2_with fail
    go_ret
    exact ⟨rfl, Kp.refl _ _⟩
theorem cov_iff (b : Qk n c M B) (hf : (f, F) ∈ B) (ls : List Int) : covB n ls F = true ↔ varsB M.n ls = true ∧ ls.Nodup ∧ ∀ v, v ∈ M.supM f → (v : Int) ∈ ls := by
  obtain ⟨hv1, hs⟩ := b.at hf
  have hU := (b.rd hf).upto
  obtain ⟨k, rfl, sk, _⟩ := Mgr.valid_nat b.wf hv1
  have e : M.sem k = F := funext fun x => by have := hs x; rw [Int.toNat_natCast] at this; exact this
  have key : ∀ v, v ∈ M.supM (k : Int) ↔ v ∈ (List.range n).filter fun u => depT n F u := fun v => by
    unfold Mgr.supM
    rw [if_pos hv1, Int.toNat_natCast, Mgr.supp_iff b.wf sk, List.mem_filter, List.mem_range, depT_iff hU, b.nn, e]
  unfold covB distB
  rw [Bool.and_eq_true, Bool.and_eq_true, decide_eq_true_iff, List.all_eq_true, b.nn]
  constructor
  · rintro ⟨⟨h1, h2⟩, h3⟩
    exact ⟨h1, h2, fun v hv => of_decide_eq_true (h3 v ((key v).1 hv))⟩
  · rintro ⟨h1, h2, h3⟩
    exact ⟨⟨h1, h2⟩, fun v hv => decide_eq_true (h3 v ((key v).2 hv))⟩
set_option maxRecDepth 100000 in
theorem Count_no (R : Rep w p M L) (b : Qk n c M B) (hn : n ≤ 256) (hf : (f, F) ∈ B) (ls : List Int) (hl : ls.length ≤ 1000000) (hc : covB n ls F = false) {dv : Value} (hd : SrcAt w dv 1 ls.length (ls.map intV)) :
    Calls Try.prog 48 #[ptr p, .int .i64 f, dv] w fun e w' => e = .returned (.tuple #[.int .u64 0, .int .u64 0, .int .i64 1]) ∧ Kp No w w' := by
  have CM := Lib.hid (complete_any R (by rw [b.nn]; exact hn) (b.at hf).1 ls hl hd false (by rw [← cov_iff b hf, hc]))
  obtain ⟨ao, cp, rfl⟩ := hd.form
  clear R b hf hd hc
  go_enter Try.func48, Try.ntmps48
  go_wp2_with fail
  refine CM.out.mono ?_
  rintro e w1 ⟨rfl, k1⟩
  have K1 := Lib.hid k1
  clear k1
  go_wp2_with fail
  refine bodyPost_ret (v := .tuple #[.int .u64 0, .int .u64 0, .int .i64 1]) (by simp [results, Try.results48, go_sem]) rfl ⟨rfl, K1.out⟩
set_option maxRecDepth 100000 in
theorem Least_zero {dv : Value} {ao : Option Addr} {m cp : Nat} (e : dv = .slice ao m cp) : Calls Try.prog 49 #[ptr p, .int .i64 0, dv] w fun e w' => e = .returned (.tuple #[.slice none 0 0, .bool false]) ∧ Kp No w w' := by
  subst e
  go_enter Try.func49, Try.ntmps49
  go_wp2_with fail
  refine bodyPost_ret (v := .tuple #[.slice none 0 0, .bool false]) (by simp [results, Try.results49, go_sem]) rfl ⟨rfl, Kp.refl _ _⟩
set_option maxRecDepth 100000 in
theorem Least_no (R : Rep w p M L) (b : Qk n c M B) (hn : n ≤ 256) (hf : (f, F) ∈ B) (ls : List Int) (hl : ls.length ≤ 1000000) (hc : covB n ls F = false) {dv : Value} (hd : SrcAt w dv 1 ls.length (ls.map intV)) :
    Calls Try.prog 49 #[ptr p, .int .i64 f, dv] w fun e w' => e = .returned (.tuple #[.slice none 0 0, .bool false]) ∧ Kp No w w' := by
  have CM := Lib.hid (complete_any R (by rw [b.nn]; exact hn) (b.at hf).1 ls hl hd false (by rw [← cov_iff b hf, hc]))
  obtain ⟨ao, cp, rfl⟩ := hd.form
  by_cases hz : f = 0
  · rw [hz]; exact Least_zero rfl
  have hfz : (f == 0) = false := by simpa using hz
  clear R b hf hd hc hz
  go_enter Try.func49, Try.ntmps49
  go_wp2_with fail
  refine CM.out.mono ?_
  rintro e w1 ⟨rfl, k1⟩
  have K1 := Lib.hid k1
  clear k1
  go_wp2_with fail
  refine bodyPost_ret (v := .tuple #[.slice none 0 0, .bool false]) (by simp [results, Try.results49, go_sem]) rfl ⟨rfl, K1.out⟩

def CdR (w : World) (N gk : Nat) (s18 : Value) (x : World) : Prop := ∃ k, k + gk = N ∧ s18 = .int .i64 (k : Int) ∧ Kp No w x
set_option maxRecDepth 100000 in
set_option maxHeartbeats 4000000 in
theorem counted_ok (hn : n ≤ 6) (h0 : 0 < n) (R : Rep w p M L) (b : Qk n c M B) (hc : c ≤ 800000000000) (hf : (f, F) ∈ B) {B1 : Nat} {ta lv : Value} (ht : Tb B1 w ta (tab n F)) (hto : Off L p ta) (ls : List Int) (hl : ls.length ≤ 1000000) (hd : SrcAt w lv 1 ls.length (ls.map intV)) (hlo : ∀ g o m cc, lv = .slice (some ⟨g, o, none⟩) m cc → ¬ L.at p g) :
    Calls Try.prog 21 #[ptr p, .int .i64 f, ta, .int .i64 (n : Int), lv] w fun e w' => ∃ M', Ret p L w M' (.bool true) e w' ∧ Qk n (c + 10000) M' B := by
  have RB := Lib.hid R
  have QB := Lib.hid b
  have HF := Lib.hid hf
  have HT := Lib.hid ht
  have HTO := Lib.hid hto
  have HD := Lib.hid hd
  have HLO := Lib.hid hlo
  have HU := Lib.hid (b.rd hf).upto
  have HN := Lib.hid hn
  obtain ⟨ao, cp, rfl⟩ := hd.form
  obtain ⟨gt, ct, rfl, _⟩ := ht.form
  cases hcov : covB n ls F with
  | false =>
    have C1 := Lib.hid (Count_no R b (by omega) hf ls hl hcov hd)
    have C2 := Lib.hid (fun (y : World) (k : Kp No w y) => Least_no (R.no k) b (by omega) hf ls hl hcov (hd.no k))
    have C3 := Lib.hid (fun (y : World) (k : Kp No w y) => RCovers_ok hn ls hl HU.out (ht.no k) (hd.no k))
    rw [hcov] at C3
    clear R b hf ht hto hd hlo hcov hn
    go_enter Try.func21, Try.ntmps21
    go_wp2_with fail
    refine C1.out.mono ?_
    rintro e w1 ⟨rfl, k1⟩
    have K1 := Lib.hid k1
    clear k1
    go_wp2_with fail
    refine (C2.out w1 K1.out).mono ?_
    rintro e w2 ⟨rfl, k2⟩
    have K2 := Lib.hid (K1.out.trans_no k2)
    clear k2
    go_wp2_with fail
    refine (C3.out w2 K2.out).mono ?_
    rintro e w3 ⟨rfl, k3⟩
    have K3 := Lib.hid (K2.out.trans_no k3)
    clear k3
    go_wp2_with fail
    go_ret
    refine ⟨M, ?_, QB.out.mono (by omega)⟩
    exact ((Sd.start RB.out).no K3.out).ret _
  | true =>
    obtain ⟨hv, hnd, hsup⟩ := (cov_iff b hf ls).1 hcov
    rw [b.nn] at hv
    obtain ⟨fr, e1, hfr⟩ := varsB_nat hv
    have hnd' : fr.Nodup := by rw [e1] at hnd; exact distB_nats.1 (decide_eq_true hnd)
    have hl6 : fr.length ≤ 6 := Nat.le_trans (nodup_le n fr hnd' hfr) hn
    have hll : ls.length = fr.length := by rw [e1, List.length_map]
    have hin : ∀ v, v < n → v ∉ fr → ∀ a, F (Mgr.upd a v false) = F (Mgr.upd a v true) := fun v hvn hvf a => by
      apply Classical.byContradiction
      intro hne
      refine sup_bad b hf hvn hvf hne (fun u hu => ?_)
      obtain ⟨x, hx, e⟩ := List.mem_map.1 (by have := hsup u hu; rw [e1] at this; exact this)
      rw [← Int.ofNat.inj e]; exact hx
    have hsup' : ∀ v, v ∈ M.supM f → v ∈ fr := fun u hu => by
      obtain ⟨x, hx, e⟩ := List.mem_map.1 (by have := hsup u hu; rw [e1] at this; exact this)
      rw [← Int.ofNat.inj e]; exact hx
    have dep := DepL.of (b.rd hf) hin
    have CV : Hid (∀ y v, SrcAt y v 1 ls.length (ls.map intV) → SrcAt y v 1 fr.length (fr.map natV)) := Lib.hid (fun y v h => by rw [e1] at h; exact h.nats)
    have hcnt : cntL F fr ≤ 64 := Nat.le_trans (cntL_le fr F) (pow_le_64 hl6)
    have C1 := Lib.hid (CountA R b hf (by omega) h0 fr (by omega) hfr hnd' hin (CV.out _ _ hd))
    rw [Nat.div_eq_of_lt (by omega), Nat.mod_eq_of_lt (by omega)] at C1
    have C3 := Lib.hid (fun (y : World) (k : Kp (L.at p) w y) => RCovers_ok hn ls hl HU.out (ht.kp k (fun x hx hA => hto x hx hA)) (hd.kp k (fun _ g o m cc h => hlo g o m cc h)))
    have C4 := Lib.hid (fun (y : World) (k : Kp (L.at p) w y) => RLeast_ok hn fr hnd' hfr hl6 HU.out dep (ht.kp k (fun x hx hA => hto x hx hA)) (CV.out _ _ (hd.kp k (fun _ g o m cc h => hlo g o m cc h))))
    have C5 := Lib.hid (fun (y : World) (k : Kp (L.at p) w y) => RCount_ok hn fr hnd' hfr hl6 HU.out (ht.kp k (fun x hx hA => hto x hx hA)) (CV.out _ _ (hd.kp k (fun _ g o m cc h => hlo g o m cc h))))
    rw [hcov] at C3
    have ST := Lib.hid (st64 hn (b.rd hf))
    have hcw : IntKind.u64.wrap ((cntL F fr : Nat) : Int) = ((cntL F fr : Nat) : Int) := IntWalk.u64_in _ ⟨by omega, by omega⟩
    have ZF : Hid (f = 0 ↔ ∀ a, F a = false) := Lib.hid ⟨fun e => b.consts.eq_conv (f := 0) (F := F) (G := fun _ => false) (by rw [e] at hf; exact .tail _ (.tail _ hf)) (.head _), fun h => b.consts.eq (f := f) (F := F) (g := 0) (G := fun _ => false) (.tail _ (.tail _ hf)) (.head _) h⟩
    have hcn : ((cntL F fr : Nat) : Int) ≤ 64 := by omega
    have LV := Lib.hid (lsV_len fr F)
    by_cases hz : f = 0
    · have FZ := Lib.hid (ZF.out.1 hz)
      subst hz
      clear b hf ht hto hd hlo hcov hn hv hnd hsup e1 hfr hnd' hin hsup' dep CV hcnt ZF ST hll
      generalize cntL F fr = N at *
      go_enter Try.func21, Try.ntmps21
      go_wp2_with fail
      refine C1.out.mono ?_
      rintro e w1 ⟨rfl, k1⟩
      have K1 := Lib.hid k1
      clear k1
      go_wp2_with fail
      refine (Least_zero rfl).mono ?_
      rintro e w2 ⟨rfl, k2⟩
      have K2 := Lib.hid (K1.out.trans_no k2)
      clear k2
      go_wp2_with fail
      refine (C3.out w2 (K2.out.mono (fun _ _ h => h.elim))).mono ?_
      rintro e w3 ⟨rfl, k3⟩
      have K3 := Lib.hid (K2.out.trans_no k3)
      clear k3
      go_wp2_with fail
      refine (C4.out w3 (K3.out.mono (fun _ _ h => h.elim))).mono ?_
      intro e w4 hpost
      rcases hpost with ⟨_, rfl, rfl⟩ | ⟨⟨a, ha⟩, _⟩
      · go_wp2_with fail
        refine (C5.out w3 (K3.out.mono (fun _ _ h => h.elim))).mono ?_
        rintro e w4 ⟨rfl, rfl⟩
        have J0 : Hid (CdR w3 0 0 (.int .i64 0) w3) := Lib.hid ⟨0, rfl, rfl, Kp.refl _ _⟩
        go_wp2_with fail
        go_loopg [18] 0 (fun gk s18 x => CdR w3 0 gk s18 x)
        case atStart => exact J0.out
        case round =>
          obtain ⟨k, hk, rfl, kp⟩ := hrel
          obtain rfl : k = 0 := by omega
          have KP := Lib.hid kp
          clear kp
          go_wp2_with fail
          go_ret
          refine ⟨M, ?_, QB.out.mono (by omega)⟩
          exact ((Sd.start RB.out).no (K3.out.trans_no KP.out)).ret _
      · rw [FZ.out a] at ha; cases ha
    · have hmul : fr.length * (2 * (n * 64)) ≤ 6 * (2 * (6 * 64)) := Nat.mul_le_mul hl6 (Nat.mul_le_mul_left 2 (Nat.mul_le_mul_right 64 hn))
      have L1 := Lib.hid (fun (y : World) (k : Kp No w y) => Least_off fr hnd' (by omega) hfr (R.no k) b hf hz ST.out (by omega) hsup' (CV.out _ _ (hd.no k)) hlo (by omega))
      have NZ : Hid (¬ ∀ a, F a = false) := Lib.hid (fun h => hz (ZF.out.2 h))
      have CO := Lib.hid (show c + fr.length * (2 * (n * 64)) ≤ c + 10000 by omega)
      clear b hf ht hto hd hlo hcov hn hv hnd hsup e1 hfr hnd' hin hsup' dep CV hcnt ZF ST hll hmul hz
      generalize cntL F fr = N at *
      obtain ⟨xs, hxs⟩ : ∃ xs, lsV F fr = xs := ⟨_, rfl⟩
      rw [hxs] at L1 LV
      have HX := Lib.hid hxs
      clear hxs
      go_enter Try.func21, Try.ntmps21
      go_wp2_with fail
      refine C1.out.mono ?_
      rintro e w1 ⟨rfl, k1⟩
      have K1 := Lib.hid k1
      clear k1
      go_wp2_with fail
      refine (L1.out w1 K1.out).mono ?_
      rintro e w2 ⟨a2, c2, M2, L2, rfl, rep2, kp2, fr2, qk2, row2, off2⟩
      obtain ⟨_, L3, s2⟩ := ((Sd.start RB.out).no K1.out).step (v := .tuple #[.slice a2 xs.length c2, .bool true]) ⟨L2, rfl, rep2, kp2, fr2⟩
      have S2 := Lib.hid s2
      have QK2 : Hid (Qk n (c + 10000) M2 B) := Lib.hid (qk2.mono CO.out)
      have R2 := Lib.hid (fun (y : World) (k : Kp No w2 y) => (SrcAt.of_row row2).no k)
      clear s2 rep2 kp2 fr2 qk2 row2 off2 L1 K1 C1
      go_wp2_with fail
      refine (C3.out w2 S2.out.kp).mono ?_
      rintro e w3 ⟨rfl, k3⟩
      have S3 := Lib.hid (S2.out.no k3)
      have K3 := Lib.hid k3
      clear k3 C3
      go_wp2_with fail
      refine (C4.out w3 S3.out.kp).mono ?_
      intro e w4 hpost
      rcases hpost with ⟨h, _, _⟩ | ⟨_, a5, c5, rfl, row5, k4⟩
      · exact (NZ.out h).elim
      · rw [HX.out] at row5
        have S4 := Lib.hid (S3.out.no k4)
        have K4 := Lib.hid (K3.out.trans_no k4)
        have R5 := Lib.hid (fun (y : World) (k : Kp No w4 y) => (SrcAt.of_row row5).no k)
        have hle : (xs.length : Int) = (fr.length : Int) := by have := LV.out; omega
        have hle2 : ((xs.length : Int) != (fr.length : Int)) = false := by simp [hle]
        have hle3 : ((xs.length : Int) == (fr.length : Int)) = true := by simp [hle]
        have HXL := Lib.hid hle
        have hxl : (xs.length : Int) ≤ 6 := by omega
        clear row5 k4 C4 hle
        go_wp2_with fail
        refine (C5.out w4 S4.out.kp).mono ?_
        rintro e w5 ⟨rfl, rfl⟩
        have J0 : Hid (CdR w4 xs.length xs.length (.int .i64 0) w4) := Lib.hid ⟨0, by omega, rfl, Kp.refl _ _⟩
        clear C5
        go_wp2_with fail
        go_loopg [18] xs.length (fun gk s18 x => CdR w4 xs.length gk s18 x)
        case atStart => exact J0.out
        case round =>
          clear J0
          obtain ⟨k, hk, rfl, kp⟩ := hrel
          have HK := Lib.hid hk
          have KP := Lib.hid kp
          by_cases hlt : k < xs.length
          · have hlti : (k : Int) < xs.length := by omega
            obtain ⟨g1, o1, c1, hv1, _, hc1⟩ := (R2.out wr (K4.out.trans_no kp)).cellAt (by omega)
            obtain ⟨g3, o3, c3, hv3, _, hc3⟩ := (R5.out wr kp).cellAt (by have := LV.out; omega)
            cases hv1
            cases hv3
            have d1 := hc1 k (.bool (xs.getD k false)) (by rw [List.getElem?_map, List.getElem?_eq_getElem hlt, List.getD_eq_getElem?_getD, List.getElem?_eq_getElem hlt]; rfl)
            have d2 := hc3 k (.bool (xs.getD k false)) (by rw [List.getElem?_map, List.getElem?_eq_getElem hlt, List.getD_eq_getElem?_getD, List.getElem?_eq_getElem hlt]; rfl)
            have hlt2 : (k : Int) < fr.length := by have := HXL.out; omega
            clear hc1 hc3 hk kp hlt
            generalize xs.getD k false = x0 at *
            have hxx : (x0 != x0) = false := by simp
            have JN : Hid (∀ y, Kp No wr y → CdR w4 xs.length (xs.length - (k + 1)) (.int .i64 ((k + 1 : Nat) : Int)) y) := Lib.hid (fun y ky => ⟨k + 1, by have := HK.out; omega, rfl, KP.out.trans_no ky⟩)
            go_wp2_with fail
            go_quiet (fail)
            go_wp2_with fail
            go_roundg (xs.length - (k + 1))
            case measure => have := HK.out; omega
            case rel => exact JN.out _ (Kp.drewN _)
          · have hge : ¬ (k : Int) < xs.length := by omega
            clear kp hk hlt
            go_wp2_with fail
            go_ret
            exact ⟨M2, (S4.out.no KP.out).ret _, QK2.out⟩
end

end Go.Proofs.Ytngbodmooddjbaa
