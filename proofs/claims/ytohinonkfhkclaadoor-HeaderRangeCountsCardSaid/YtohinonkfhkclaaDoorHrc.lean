/-
  Walks: the law HeaderRangeCounts.
-/
import Derived.Test.YtohinonkfhkclaaDoorRc
namespace Go.Proofs.YtohinonkfhkclaaDoor
open Go.RowKit

theorem cntN_range (lo hi : Nat) : ∀ m, cntN (fun x => decide (lo ≤ x ∧ x ≤ hi)) m = if lo ≤ hi ∧ lo < m then min hi (m - 1) - lo + 1 else 0
  | 0 => by simp [cntN]
  | m + 1 => by
    rw [cntN_add, cntN_range lo hi m]
    have e : cntN (fun x => decide (lo ≤ m + x ∧ m + x ≤ hi)) 1 = if lo ≤ m ∧ m ≤ hi then 1 else 0 := by
      unfold cntN
      by_cases h : lo ≤ m ∧ m ≤ hi <;> simp [List.range_succ, h]
    rw [e]
    by_cases h1 : lo ≤ hi <;> by_cases h2 : lo < m <;> by_cases h3 : lo ≤ m <;> by_cases h4 : m ≤ hi <;> simp only [h1, h2, h3, h4, and_true, true_and, and_false, false_and, if_true, if_false, and_self] <;> first | omega | (split <;> omega)
theorem rg_cur {k : Nat} (lo hi : Nat) {v : Nat} (h : v < 12 ∨ v % 2 = 1) (a : Nat → Bool) (x y : Bool) : rgF k false lo hi (Mgr.upd a v x) = rgF k false lo hi (Mgr.upd a v y) := by
  have e : ∀ z, fval k false (Mgr.upd a v z) = fval k false a := fun z => bval_congr _ (fun i _ => by
    unfold fbit
    rw [Mgr.upd_other]
    unfold fvar hvar
    simp; omega)
  unfold rgF
  rw [e, e]
theorem rg1_dep {k : Nat} (hk : k < 5) : rgF k true 1 1 (Mgr.upd (fun _ => false) (fvar k (fw k - 1) true) false) ≠ rgF k true 1 1 (Mgr.upd (fun _ => false) (fvar k (fw k - 1) true) true) := by
  rcases five hk with rfl | rfl | rfl | rfl | rfl <;> decide +kernel

/-- What the law counts itself. -/
def rcN (k lo hi : Nat) : Nat := if lo ≤ hi ∧ lo < 2 ^ fw k then min hi (2 ^ fw k - 1) - lo + 1 else 0
theorem rc_parts {k : Nat} (hk : k < 5) (lo hi : Nat) : cntL (rgF k false lo hi) (hvK false 104) / 2 ^ 64 = rcN k lo hi * 2 ^ (40 - fw k) ∧ cntL (rgF k false lo hi) (hvK false 104) % 2 ^ 64 = 0 := by
  rw [cnt_range hk, cntN_range]
  have hw := fw_le k
  have e : (2 : Nat) ^ (104 - fw k) = 2 ^ (40 - fw k) * 2 ^ 64 := by rw [← Nat.pow_add]; congr 1; omega
  rw [e, ← Nat.mul_assoc]
  exact ⟨Nat.mul_div_cancel _ (by decide), Nat.mul_mod_left _ _⟩
theorem rcN_le (k lo hi : Nat) : rcN k lo hi ≤ 2 ^ fw k := by
  unfold rcN; generalize 2 ^ fw k = z; split <;> omega

set_option maxRecDepth 1000000 in
set_option maxHeartbeats 4000000 in
theorem HeaderRangeCounts_walk (x : Int) (lo hi : Nat) (hlo : lo < 4294967296) (hhi : hi < 4294967296) {w : World} (g : Gl w) :
    Calls Tryd.prog 6 #[.int .i64 x, .int .u32 (lo : Int), .int .u32 (hi : Int)] w fun e w' => e = .returned (.bool true) ∧ Kp No w w' := by
  have GW := Lib.hid g
  have AW := Lib.hid (hawake_ok g)
  have NEW := Lib.hid (fun (y : World) => HNew_ok y)
  have PICK := Lib.hid (fun (y : World) => Pick_ok x 5 y (by omega) (by omega))
  have hk5 := pick_lt x (n := 5) (by omega)
  generalize pick x 5 = k at *
  have WD := Lib.hid (fun (y : World) => width_ok k hk5 y)
  have RG := Lib.hid (fun (c : Nat) (M : Mgr) (L : Lay) (B : List (Int × Bfn)) (y : World) (pm : Nat) (f : Hf y pm L 220 c y M L B) (hc : c ≤ 500000000000) => Range_ok k hk5 false lo hi hlo hhi f.rep f.qk f.gl f.off hc)
  have RG1 := Lib.hid (fun (c : Nat) (M : Mgr) (L : Lay) (B : List (Int × Bfn)) (y : World) (pm : Nat) (f : Hf y pm L 220 c y M L B) (hc : c ≤ 500000000000) => Range_ok k hk5 true 1 1 (by omega) (by omega) f.rep f.qk f.gl f.off hc)
  have CQ := Lib.hid (fun (p c : Nat) (M : Mgr) (L : Lay) (B : List (Int × Bfn)) (f : Int) (y : World) (R : Rep y p M L) (b : Qk 220 c M B) (hf : (f, rgF k false lo hi) ∈ B) => HCount_ok R b hf (fun v _ h a => rg_cur lo hi h a false true))
  have CB := Lib.hid (fun (p c : Nat) (M : Mgr) (L : Lay) (B : List (Int × Bfn)) (f : Int) (y : World) (R : Rep y p M L) (b : Qk 220 c M B) (hf : (f, rgF k true 1 1) ∈ B) => HCount_bad R b hf (v := fvar k (fw k - 1) true) (fvar_lt hk5 (by have := fw_pos hk5; omega) true) (.inr (by rw [fvar_eq]; simp only [if_true]; omega)) (rg1_dep hk5))
  obtain ⟨P1, P2⟩ := rc_parts hk5 lo hi
  rw [P1, P2] at CQ
  have NL := rcN_le k lo hi
  have NE : rcN k lo hi = if lo ≤ hi ∧ lo < 2 ^ fw k then min hi (2 ^ fw k - 1) - lo + 1 else 0 := rfl
  clear g P1 P2
  generalize rcN k lo hi = nn at *
  rcases five hk5 with rfl | rfl | rfl | rfl | rfl
  · simp only [show fw 0 = 32 from rfl] at WD CQ NL NE
    go_enter Tryd.func6, Tryd.ntmps6
    go_wp2_with fail
    refine AW.out.mono ?_
    rintro e w1 ⟨rfl, k1⟩
    have G1 := Lib.hid (GW.out.no k1)
    have K1 := Lib.hid k1
    clear k1
    go_wp2_with fail
    refine (PICK.out _).mono ?_
    rintro e w' ⟨rfl, rfl⟩
    go_wp2_with fail
    refine (NEW.out _).mono ?_
    rintro e w4 ⟨pm, L4, rfl, R4, k4, o4⟩
    have H4 := Lib.hid (hf_new G1.out (Kp.refl No w1) R4 k4 o4)
    have K4 := Lib.hid (K1.out.trans_no k4)
    have O4 := Lib.hid (fun x hx => Nat.le_trans K1.out.size (o4 x hx))
    clear R4 k4 o4
    go_wp2_with fail
    refine (WD.out _).mono ?_
    rintro e w' ⟨rfl, rfl⟩
    by_cases hA1 : lo ≤ hi
    case pos =>
      have hA1i : (lo : Int) ≤ (hi : Int) := by omega
      by_cases hA2 : lo ≤ 4294967295
      case pos =>
        have hA2i : (lo : Int) ≤ 4294967295 := by omega
        have hnn : nn = min hi 4294967295 - lo + 1 := by rw [NE]; simp only [hA1, true_and]; rw [if_pos (by omega)]
        have HNN := Lib.hid hnn
        clear hnn
        go_wp2_with fail
        refine (WD.out _).mono ?_
        rintro e w' ⟨rfl, rfl⟩
        go_wp2_with fail
        refine (RG.out _ _ _ _ _ _ H4.out (by omega)).mono ?_
        intro e w5 h5
        obtain ⟨f, M5, L5, rfl, hf, f5⟩ := H4.out.step h5
        have H5 := Lib.hid f5
        clear h5 f5
        go_wp2_with fail
        refine (CQ.out _ _ _ _ _ _ _ H5.out.rep H5.out.qk (.head _)).mono ?_
        rintro e w6 ⟨rfl, k6⟩
        have H6 := Lib.hid (H5.out.no k6)
        clear k6
        rw [HNN.out, show (((min hi 4294967295 - lo + 1) * 2 ^ (40 - 32) : Nat) : Int) = (((min hi 4294967295 - lo : Nat) : Int) + 1) * 256 by omega]
        go_wp2_with fail
        refine (RG1.out _ _ _ _ _ _ H6.out.rebase (by omega)).mono ?_
        intro e w7 h7
        obtain ⟨g2, M7, L7, rfl, _, f7⟩ := H6.out.step h7
        have H7 := Lib.hid f7
        clear h7 f7
        go_wp2_with fail
        refine (CB.out _ _ _ _ _ _ _ H7.out.rep H7.out.qk (.head _)).mono ?_
        rintro e w8 ⟨rfl, k8⟩
        have KF : Hid (Kp No w w8) := Lib.hid ((K4.out.trans (A' := L4.at pm) (fun z hz => .inr (O4.out z hz)) H7.out.sd.kp).trans_no k8)
        clear k8
        go_wp2_with fail
        go_ret
        exact ⟨rfl, KF.out⟩
      case neg => exact absurd (by omega) hA2
    case neg =>
      have hA1i : ¬ (lo : Int) ≤ (hi : Int) := by omega
      have hnn : nn = 0 := by rw [NE]; rw [if_neg (by omega)]
      have HNN := Lib.hid hnn
      clear hnn
      go_wp2_with fail
      refine (WD.out _).mono ?_
      rintro e w' ⟨rfl, rfl⟩
      go_wp2_with fail
      refine (RG.out _ _ _ _ _ _ H4.out (by omega)).mono ?_
      intro e w5 h5
      obtain ⟨f, M5, L5, rfl, hf, f5⟩ := H4.out.step h5
      have H5 := Lib.hid f5
      clear h5 f5
      go_wp2_with fail
      refine (CQ.out _ _ _ _ _ _ _ H5.out.rep H5.out.qk (.head _)).mono ?_
      rintro e w6 ⟨rfl, k6⟩
      have H6 := Lib.hid (H5.out.no k6)
      clear k6
      rw [HNN.out, show ((0 * 2 ^ (40 - 32) : Nat) : Int) = 0 by omega]
      go_wp2_with fail
      refine (RG1.out _ _ _ _ _ _ H6.out.rebase (by omega)).mono ?_
      intro e w7 h7
      obtain ⟨g2, M7, L7, rfl, _, f7⟩ := H6.out.step h7
      have H7 := Lib.hid f7
      clear h7 f7
      go_wp2_with fail
      refine (CB.out _ _ _ _ _ _ _ H7.out.rep H7.out.qk (.head _)).mono ?_
      rintro e w8 ⟨rfl, k8⟩
      have KF : Hid (Kp No w w8) := Lib.hid ((K4.out.trans (A' := L4.at pm) (fun z hz => .inr (O4.out z hz)) H7.out.sd.kp).trans_no k8)
      clear k8
      go_wp2_with fail
      go_ret
      exact ⟨rfl, KF.out⟩
  · simp only [show fw 1 = 32 from rfl] at WD CQ NL NE
    go_enter Tryd.func6, Tryd.ntmps6
    go_wp2_with fail
    refine AW.out.mono ?_
    rintro e w1 ⟨rfl, k1⟩
    have G1 := Lib.hid (GW.out.no k1)
    have K1 := Lib.hid k1
    clear k1
    go_wp2_with fail
    refine (PICK.out _).mono ?_
    rintro e w' ⟨rfl, rfl⟩
    go_wp2_with fail
    refine (NEW.out _).mono ?_
    rintro e w4 ⟨pm, L4, rfl, R4, k4, o4⟩
    have H4 := Lib.hid (hf_new G1.out (Kp.refl No w1) R4 k4 o4)
    have K4 := Lib.hid (K1.out.trans_no k4)
    have O4 := Lib.hid (fun x hx => Nat.le_trans K1.out.size (o4 x hx))
    clear R4 k4 o4
    go_wp2_with fail
    refine (WD.out _).mono ?_
    rintro e w' ⟨rfl, rfl⟩
    by_cases hA1 : lo ≤ hi
    case pos =>
      have hA1i : (lo : Int) ≤ (hi : Int) := by omega
      by_cases hA2 : lo ≤ 4294967295
      case pos =>
        have hA2i : (lo : Int) ≤ 4294967295 := by omega
        have hnn : nn = min hi 4294967295 - lo + 1 := by rw [NE]; simp only [hA1, true_and]; rw [if_pos (by omega)]
        have HNN := Lib.hid hnn
        clear hnn
        go_wp2_with fail
        refine (WD.out _).mono ?_
        rintro e w' ⟨rfl, rfl⟩
        go_wp2_with fail
        refine (RG.out _ _ _ _ _ _ H4.out (by omega)).mono ?_
        intro e w5 h5
        obtain ⟨f, M5, L5, rfl, hf, f5⟩ := H4.out.step h5
        have H5 := Lib.hid f5
        clear h5 f5
        go_wp2_with fail
        refine (CQ.out _ _ _ _ _ _ _ H5.out.rep H5.out.qk (.head _)).mono ?_
        rintro e w6 ⟨rfl, k6⟩
        have H6 := Lib.hid (H5.out.no k6)
        clear k6
        rw [HNN.out, show (((min hi 4294967295 - lo + 1) * 2 ^ (40 - 32) : Nat) : Int) = (((min hi 4294967295 - lo : Nat) : Int) + 1) * 256 by omega]
        go_wp2_with fail
        refine (RG1.out _ _ _ _ _ _ H6.out.rebase (by omega)).mono ?_
        intro e w7 h7
        obtain ⟨g2, M7, L7, rfl, _, f7⟩ := H6.out.step h7
        have H7 := Lib.hid f7
        clear h7 f7
        go_wp2_with fail
        refine (CB.out _ _ _ _ _ _ _ H7.out.rep H7.out.qk (.head _)).mono ?_
        rintro e w8 ⟨rfl, k8⟩
        have KF : Hid (Kp No w w8) := Lib.hid ((K4.out.trans (A' := L4.at pm) (fun z hz => .inr (O4.out z hz)) H7.out.sd.kp).trans_no k8)
        clear k8
        go_wp2_with fail
        go_ret
        exact ⟨rfl, KF.out⟩
      case neg => exact absurd (by omega) hA2
    case neg =>
      have hA1i : ¬ (lo : Int) ≤ (hi : Int) := by omega
      have hnn : nn = 0 := by rw [NE]; rw [if_neg (by omega)]
      have HNN := Lib.hid hnn
      clear hnn
      go_wp2_with fail
      refine (WD.out _).mono ?_
      rintro e w' ⟨rfl, rfl⟩
      go_wp2_with fail
      refine (RG.out _ _ _ _ _ _ H4.out (by omega)).mono ?_
      intro e w5 h5
      obtain ⟨f, M5, L5, rfl, hf, f5⟩ := H4.out.step h5
      have H5 := Lib.hid f5
      clear h5 f5
      go_wp2_with fail
      refine (CQ.out _ _ _ _ _ _ _ H5.out.rep H5.out.qk (.head _)).mono ?_
      rintro e w6 ⟨rfl, k6⟩
      have H6 := Lib.hid (H5.out.no k6)
      clear k6
      rw [HNN.out, show ((0 * 2 ^ (40 - 32) : Nat) : Int) = 0 by omega]
      go_wp2_with fail
      refine (RG1.out _ _ _ _ _ _ H6.out.rebase (by omega)).mono ?_
      intro e w7 h7
      obtain ⟨g2, M7, L7, rfl, _, f7⟩ := H6.out.step h7
      have H7 := Lib.hid f7
      clear h7 f7
      go_wp2_with fail
      refine (CB.out _ _ _ _ _ _ _ H7.out.rep H7.out.qk (.head _)).mono ?_
      rintro e w8 ⟨rfl, k8⟩
      have KF : Hid (Kp No w w8) := Lib.hid ((K4.out.trans (A' := L4.at pm) (fun z hz => .inr (O4.out z hz)) H7.out.sd.kp).trans_no k8)
      clear k8
      go_wp2_with fail
      go_ret
      exact ⟨rfl, KF.out⟩
  · simp only [show fw 2 = 8 from rfl] at WD CQ NL NE
    go_enter Tryd.func6, Tryd.ntmps6
    go_wp2_with fail
    refine AW.out.mono ?_
    rintro e w1 ⟨rfl, k1⟩
    have G1 := Lib.hid (GW.out.no k1)
    have K1 := Lib.hid k1
    clear k1
    go_wp2_with fail
    refine (PICK.out _).mono ?_
    rintro e w' ⟨rfl, rfl⟩
    go_wp2_with fail
    refine (NEW.out _).mono ?_
    rintro e w4 ⟨pm, L4, rfl, R4, k4, o4⟩
    have H4 := Lib.hid (hf_new G1.out (Kp.refl No w1) R4 k4 o4)
    have K4 := Lib.hid (K1.out.trans_no k4)
    have O4 := Lib.hid (fun x hx => Nat.le_trans K1.out.size (o4 x hx))
    clear R4 k4 o4
    go_wp2_with fail
    refine (WD.out _).mono ?_
    rintro e w' ⟨rfl, rfl⟩
    by_cases hA1 : lo ≤ hi
    case pos =>
      have hA1i : (lo : Int) ≤ (hi : Int) := by omega
      by_cases hA2 : lo ≤ 255
      case pos =>
        have hA2i : (lo : Int) ≤ 255 := by omega
        have hnn : nn = min hi 255 - lo + 1 := by rw [NE]; simp only [hA1, true_and]; rw [if_pos (by omega)]
        have HNN := Lib.hid hnn
        clear hnn
        go_wp2_with fail
        refine (WD.out _).mono ?_
        rintro e w' ⟨rfl, rfl⟩
        go_wp2_with fail
        refine (RG.out _ _ _ _ _ _ H4.out (by omega)).mono ?_
        intro e w5 h5
        obtain ⟨f, M5, L5, rfl, hf, f5⟩ := H4.out.step h5
        have H5 := Lib.hid f5
        clear h5 f5
        go_wp2_with fail
        refine (CQ.out _ _ _ _ _ _ _ H5.out.rep H5.out.qk (.head _)).mono ?_
        rintro e w6 ⟨rfl, k6⟩
        have H6 := Lib.hid (H5.out.no k6)
        clear k6
        rw [HNN.out, show (((min hi 255 - lo + 1) * 2 ^ (40 - 8) : Nat) : Int) = (((min hi 255 - lo : Nat) : Int) + 1) * 4294967296 by omega]
        go_wp2_with fail
        refine (RG1.out _ _ _ _ _ _ H6.out.rebase (by omega)).mono ?_
        intro e w7 h7
        obtain ⟨g2, M7, L7, rfl, _, f7⟩ := H6.out.step h7
        have H7 := Lib.hid f7
        clear h7 f7
        go_wp2_with fail
        refine (CB.out _ _ _ _ _ _ _ H7.out.rep H7.out.qk (.head _)).mono ?_
        rintro e w8 ⟨rfl, k8⟩
        have KF : Hid (Kp No w w8) := Lib.hid ((K4.out.trans (A' := L4.at pm) (fun z hz => .inr (O4.out z hz)) H7.out.sd.kp).trans_no k8)
        clear k8
        go_wp2_with fail
        go_ret
        exact ⟨rfl, KF.out⟩
      case neg =>
        have hA2i : ¬ (lo : Int) ≤ 255 := by omega
        have hnn : nn = 0 := by rw [NE]; rw [if_neg (by omega)]
        have HNN := Lib.hid hnn
        clear hnn
        go_wp2_with fail
        refine (WD.out _).mono ?_
        rintro e w' ⟨rfl, rfl⟩
        go_wp2_with fail
        refine (RG.out _ _ _ _ _ _ H4.out (by omega)).mono ?_
        intro e w5 h5
        obtain ⟨f, M5, L5, rfl, hf, f5⟩ := H4.out.step h5
        have H5 := Lib.hid f5
        clear h5 f5
        go_wp2_with fail
        refine (CQ.out _ _ _ _ _ _ _ H5.out.rep H5.out.qk (.head _)).mono ?_
        rintro e w6 ⟨rfl, k6⟩
        have H6 := Lib.hid (H5.out.no k6)
        clear k6
        rw [HNN.out, show ((0 * 2 ^ (40 - 8) : Nat) : Int) = 0 by omega]
        go_wp2_with fail
        refine (RG1.out _ _ _ _ _ _ H6.out.rebase (by omega)).mono ?_
        intro e w7 h7
        obtain ⟨g2, M7, L7, rfl, _, f7⟩ := H6.out.step h7
        have H7 := Lib.hid f7
        clear h7 f7
        go_wp2_with fail
        refine (CB.out _ _ _ _ _ _ _ H7.out.rep H7.out.qk (.head _)).mono ?_
        rintro e w8 ⟨rfl, k8⟩
        have KF : Hid (Kp No w w8) := Lib.hid ((K4.out.trans (A' := L4.at pm) (fun z hz => .inr (O4.out z hz)) H7.out.sd.kp).trans_no k8)
        clear k8
        go_wp2_with fail
        go_ret
        exact ⟨rfl, KF.out⟩
    case neg =>
      have hA1i : ¬ (lo : Int) ≤ (hi : Int) := by omega
      have hnn : nn = 0 := by rw [NE]; rw [if_neg (by omega)]
      have HNN := Lib.hid hnn
      clear hnn
      go_wp2_with fail
      refine (WD.out _).mono ?_
      rintro e w' ⟨rfl, rfl⟩
      go_wp2_with fail
      refine (RG.out _ _ _ _ _ _ H4.out (by omega)).mono ?_
      intro e w5 h5
      obtain ⟨f, M5, L5, rfl, hf, f5⟩ := H4.out.step h5
      have H5 := Lib.hid f5
      clear h5 f5
      go_wp2_with fail
      refine (CQ.out _ _ _ _ _ _ _ H5.out.rep H5.out.qk (.head _)).mono ?_
      rintro e w6 ⟨rfl, k6⟩
      have H6 := Lib.hid (H5.out.no k6)
      clear k6
      rw [HNN.out, show ((0 * 2 ^ (40 - 8) : Nat) : Int) = 0 by omega]
      go_wp2_with fail
      refine (RG1.out _ _ _ _ _ _ H6.out.rebase (by omega)).mono ?_
      intro e w7 h7
      obtain ⟨g2, M7, L7, rfl, _, f7⟩ := H6.out.step h7
      have H7 := Lib.hid f7
      clear h7 f7
      go_wp2_with fail
      refine (CB.out _ _ _ _ _ _ _ H7.out.rep H7.out.qk (.head _)).mono ?_
      rintro e w8 ⟨rfl, k8⟩
      have KF : Hid (Kp No w w8) := Lib.hid ((K4.out.trans (A' := L4.at pm) (fun z hz => .inr (O4.out z hz)) H7.out.sd.kp).trans_no k8)
      clear k8
      go_wp2_with fail
      go_ret
      exact ⟨rfl, KF.out⟩
  · simp only [show fw 3 = 16 from rfl] at WD CQ NL NE
    go_enter Tryd.func6, Tryd.ntmps6
    go_wp2_with fail
    refine AW.out.mono ?_
    rintro e w1 ⟨rfl, k1⟩
    have G1 := Lib.hid (GW.out.no k1)
    have K1 := Lib.hid k1
    clear k1
    go_wp2_with fail
    refine (PICK.out _).mono ?_
    rintro e w' ⟨rfl, rfl⟩
    go_wp2_with fail
    refine (NEW.out _).mono ?_
    rintro e w4 ⟨pm, L4, rfl, R4, k4, o4⟩
    have H4 := Lib.hid (hf_new G1.out (Kp.refl No w1) R4 k4 o4)
    have K4 := Lib.hid (K1.out.trans_no k4)
    have O4 := Lib.hid (fun x hx => Nat.le_trans K1.out.size (o4 x hx))
    clear R4 k4 o4
    go_wp2_with fail
    refine (WD.out _).mono ?_
    rintro e w' ⟨rfl, rfl⟩
    by_cases hA1 : lo ≤ hi
    case pos =>
      have hA1i : (lo : Int) ≤ (hi : Int) := by omega
      by_cases hA2 : lo ≤ 65535
      case pos =>
        have hA2i : (lo : Int) ≤ 65535 := by omega
        have hnn : nn = min hi 65535 - lo + 1 := by rw [NE]; simp only [hA1, true_and]; rw [if_pos (by omega)]
        have HNN := Lib.hid hnn
        clear hnn
        go_wp2_with fail
        refine (WD.out _).mono ?_
        rintro e w' ⟨rfl, rfl⟩
        go_wp2_with fail
        refine (RG.out _ _ _ _ _ _ H4.out (by omega)).mono ?_
        intro e w5 h5
        obtain ⟨f, M5, L5, rfl, hf, f5⟩ := H4.out.step h5
        have H5 := Lib.hid f5
        clear h5 f5
        go_wp2_with fail
        refine (CQ.out _ _ _ _ _ _ _ H5.out.rep H5.out.qk (.head _)).mono ?_
        rintro e w6 ⟨rfl, k6⟩
        have H6 := Lib.hid (H5.out.no k6)
        clear k6
        rw [HNN.out, show (((min hi 65535 - lo + 1) * 2 ^ (40 - 16) : Nat) : Int) = (((min hi 65535 - lo : Nat) : Int) + 1) * 16777216 by omega]
        go_wp2_with fail
        refine (RG1.out _ _ _ _ _ _ H6.out.rebase (by omega)).mono ?_
        intro e w7 h7
        obtain ⟨g2, M7, L7, rfl, _, f7⟩ := H6.out.step h7
        have H7 := Lib.hid f7
        clear h7 f7
        go_wp2_with fail
        refine (CB.out _ _ _ _ _ _ _ H7.out.rep H7.out.qk (.head _)).mono ?_
        rintro e w8 ⟨rfl, k8⟩
        have KF : Hid (Kp No w w8) := Lib.hid ((K4.out.trans (A' := L4.at pm) (fun z hz => .inr (O4.out z hz)) H7.out.sd.kp).trans_no k8)
        clear k8
        go_wp2_with fail
        go_ret
        exact ⟨rfl, KF.out⟩
      case neg =>
        have hA2i : ¬ (lo : Int) ≤ 65535 := by omega
        have hnn : nn = 0 := by rw [NE]; rw [if_neg (by omega)]
        have HNN := Lib.hid hnn
        clear hnn
        go_wp2_with fail
        refine (WD.out _).mono ?_
        rintro e w' ⟨rfl, rfl⟩
        go_wp2_with fail
        refine (RG.out _ _ _ _ _ _ H4.out (by omega)).mono ?_
        intro e w5 h5
        obtain ⟨f, M5, L5, rfl, hf, f5⟩ := H4.out.step h5
        have H5 := Lib.hid f5
        clear h5 f5
        go_wp2_with fail
        refine (CQ.out _ _ _ _ _ _ _ H5.out.rep H5.out.qk (.head _)).mono ?_
        rintro e w6 ⟨rfl, k6⟩
        have H6 := Lib.hid (H5.out.no k6)
        clear k6
        rw [HNN.out, show ((0 * 2 ^ (40 - 16) : Nat) : Int) = 0 by omega]
        go_wp2_with fail
        refine (RG1.out _ _ _ _ _ _ H6.out.rebase (by omega)).mono ?_
        intro e w7 h7
        obtain ⟨g2, M7, L7, rfl, _, f7⟩ := H6.out.step h7
        have H7 := Lib.hid f7
        clear h7 f7
        go_wp2_with fail
        refine (CB.out _ _ _ _ _ _ _ H7.out.rep H7.out.qk (.head _)).mono ?_
        rintro e w8 ⟨rfl, k8⟩
        have KF : Hid (Kp No w w8) := Lib.hid ((K4.out.trans (A' := L4.at pm) (fun z hz => .inr (O4.out z hz)) H7.out.sd.kp).trans_no k8)
        clear k8
        go_wp2_with fail
        go_ret
        exact ⟨rfl, KF.out⟩
    case neg =>
      have hA1i : ¬ (lo : Int) ≤ (hi : Int) := by omega
      have hnn : nn = 0 := by rw [NE]; rw [if_neg (by omega)]
      have HNN := Lib.hid hnn
      clear hnn
      go_wp2_with fail
      refine (WD.out _).mono ?_
      rintro e w' ⟨rfl, rfl⟩
      go_wp2_with fail
      refine (RG.out _ _ _ _ _ _ H4.out (by omega)).mono ?_
      intro e w5 h5
      obtain ⟨f, M5, L5, rfl, hf, f5⟩ := H4.out.step h5
      have H5 := Lib.hid f5
      clear h5 f5
      go_wp2_with fail
      refine (CQ.out _ _ _ _ _ _ _ H5.out.rep H5.out.qk (.head _)).mono ?_
      rintro e w6 ⟨rfl, k6⟩
      have H6 := Lib.hid (H5.out.no k6)
      clear k6
      rw [HNN.out, show ((0 * 2 ^ (40 - 16) : Nat) : Int) = 0 by omega]
      go_wp2_with fail
      refine (RG1.out _ _ _ _ _ _ H6.out.rebase (by omega)).mono ?_
      intro e w7 h7
      obtain ⟨g2, M7, L7, rfl, _, f7⟩ := H6.out.step h7
      have H7 := Lib.hid f7
      clear h7 f7
      go_wp2_with fail
      refine (CB.out _ _ _ _ _ _ _ H7.out.rep H7.out.qk (.head _)).mono ?_
      rintro e w8 ⟨rfl, k8⟩
      have KF : Hid (Kp No w w8) := Lib.hid ((K4.out.trans (A' := L4.at pm) (fun z hz => .inr (O4.out z hz)) H7.out.sd.kp).trans_no k8)
      clear k8
      go_wp2_with fail
      go_ret
      exact ⟨rfl, KF.out⟩
  · simp only [show fw 4 = 16 from rfl] at WD CQ NL NE
    go_enter Tryd.func6, Tryd.ntmps6
    go_wp2_with fail
    refine AW.out.mono ?_
    rintro e w1 ⟨rfl, k1⟩
    have G1 := Lib.hid (GW.out.no k1)
    have K1 := Lib.hid k1
    clear k1
    go_wp2_with fail
    refine (PICK.out _).mono ?_
    rintro e w' ⟨rfl, rfl⟩
    go_wp2_with fail
    refine (NEW.out _).mono ?_
    rintro e w4 ⟨pm, L4, rfl, R4, k4, o4⟩
    have H4 := Lib.hid (hf_new G1.out (Kp.refl No w1) R4 k4 o4)
    have K4 := Lib.hid (K1.out.trans_no k4)
    have O4 := Lib.hid (fun x hx => Nat.le_trans K1.out.size (o4 x hx))
    clear R4 k4 o4
    go_wp2_with fail
    refine (WD.out _).mono ?_
    rintro e w' ⟨rfl, rfl⟩
    by_cases hA1 : lo ≤ hi
    case pos =>
      have hA1i : (lo : Int) ≤ (hi : Int) := by omega
      by_cases hA2 : lo ≤ 65535
      case pos =>
        have hA2i : (lo : Int) ≤ 65535 := by omega
        have hnn : nn = min hi 65535 - lo + 1 := by rw [NE]; simp only [hA1, true_and]; rw [if_pos (by omega)]
        have HNN := Lib.hid hnn
        clear hnn
        go_wp2_with fail
        refine (WD.out _).mono ?_
        rintro e w' ⟨rfl, rfl⟩
        go_wp2_with fail
        refine (RG.out _ _ _ _ _ _ H4.out (by omega)).mono ?_
        intro e w5 h5
        obtain ⟨f, M5, L5, rfl, hf, f5⟩ := H4.out.step h5
        have H5 := Lib.hid f5
        clear h5 f5
        go_wp2_with fail
        refine (CQ.out _ _ _ _ _ _ _ H5.out.rep H5.out.qk (.head _)).mono ?_
        rintro e w6 ⟨rfl, k6⟩
        have H6 := Lib.hid (H5.out.no k6)
        clear k6
        rw [HNN.out, show (((min hi 65535 - lo + 1) * 2 ^ (40 - 16) : Nat) : Int) = (((min hi 65535 - lo : Nat) : Int) + 1) * 16777216 by omega]
        go_wp2_with fail
        refine (RG1.out _ _ _ _ _ _ H6.out.rebase (by omega)).mono ?_
        intro e w7 h7
        obtain ⟨g2, M7, L7, rfl, _, f7⟩ := H6.out.step h7
        have H7 := Lib.hid f7
        clear h7 f7
        go_wp2_with fail
        refine (CB.out _ _ _ _ _ _ _ H7.out.rep H7.out.qk (.head _)).mono ?_
        rintro e w8 ⟨rfl, k8⟩
        have KF : Hid (Kp No w w8) := Lib.hid ((K4.out.trans (A' := L4.at pm) (fun z hz => .inr (O4.out z hz)) H7.out.sd.kp).trans_no k8)
        clear k8
        go_wp2_with fail
        go_ret
        exact ⟨rfl, KF.out⟩
      case neg =>
        have hA2i : ¬ (lo : Int) ≤ 65535 := by omega
        have hnn : nn = 0 := by rw [NE]; rw [if_neg (by omega)]
        have HNN := Lib.hid hnn
        clear hnn
        go_wp2_with fail
        refine (WD.out _).mono ?_
        rintro e w' ⟨rfl, rfl⟩
        go_wp2_with fail
        refine (RG.out _ _ _ _ _ _ H4.out (by omega)).mono ?_
        intro e w5 h5
        obtain ⟨f, M5, L5, rfl, hf, f5⟩ := H4.out.step h5
        have H5 := Lib.hid f5
        clear h5 f5
        go_wp2_with fail
        refine (CQ.out _ _ _ _ _ _ _ H5.out.rep H5.out.qk (.head _)).mono ?_
        rintro e w6 ⟨rfl, k6⟩
        have H6 := Lib.hid (H5.out.no k6)
        clear k6
        rw [HNN.out, show ((0 * 2 ^ (40 - 16) : Nat) : Int) = 0 by omega]
        go_wp2_with fail
        refine (RG1.out _ _ _ _ _ _ H6.out.rebase (by omega)).mono ?_
        intro e w7 h7
        obtain ⟨g2, M7, L7, rfl, _, f7⟩ := H6.out.step h7
        have H7 := Lib.hid f7
        clear h7 f7
        go_wp2_with fail
        refine (CB.out _ _ _ _ _ _ _ H7.out.rep H7.out.qk (.head _)).mono ?_
        rintro e w8 ⟨rfl, k8⟩
        have KF : Hid (Kp No w w8) := Lib.hid ((K4.out.trans (A' := L4.at pm) (fun z hz => .inr (O4.out z hz)) H7.out.sd.kp).trans_no k8)
        clear k8
        go_wp2_with fail
        go_ret
        exact ⟨rfl, KF.out⟩
    case neg =>
      have hA1i : ¬ (lo : Int) ≤ (hi : Int) := by omega
      have hnn : nn = 0 := by rw [NE]; rw [if_neg (by omega)]
      have HNN := Lib.hid hnn
      clear hnn
      go_wp2_with fail
      refine (WD.out _).mono ?_
      rintro e w' ⟨rfl, rfl⟩
      go_wp2_with fail
      refine (RG.out _ _ _ _ _ _ H4.out (by omega)).mono ?_
      intro e w5 h5
      obtain ⟨f, M5, L5, rfl, hf, f5⟩ := H4.out.step h5
      have H5 := Lib.hid f5
      clear h5 f5
      go_wp2_with fail
      refine (CQ.out _ _ _ _ _ _ _ H5.out.rep H5.out.qk (.head _)).mono ?_
      rintro e w6 ⟨rfl, k6⟩
      have H6 := Lib.hid (H5.out.no k6)
      clear k6
      rw [HNN.out, show ((0 * 2 ^ (40 - 16) : Nat) : Int) = 0 by omega]
      go_wp2_with fail
      refine (RG1.out _ _ _ _ _ _ H6.out.rebase (by omega)).mono ?_
      intro e w7 h7
      obtain ⟨g2, M7, L7, rfl, _, f7⟩ := H6.out.step h7
      have H7 := Lib.hid f7
      clear h7 f7
      go_wp2_with fail
      refine (CB.out _ _ _ _ _ _ _ H7.out.rep H7.out.qk (.head _)).mono ?_
      rintro e w8 ⟨rfl, k8⟩
      have KF : Hid (Kp No w w8) := Lib.hid ((K4.out.trans (A' := L4.at pm) (fun z hz => .inr (O4.out z hz)) H7.out.sd.kp).trans_no k8)
      clear k8
      go_wp2_with fail
      go_ret
      exact ⟨rfl, KF.out⟩

end Go.Proofs.YtohinonkfhkclaaDoor
