/-
  Walks: the law FailureNests.
-/
import Derived.Test.YtgglkldoclejaaaDoorFp
namespace Go.Proofs.YtgglkldoclejaaaDoor
open Go.RowKit

theorem clN_mono {x y : Int} (h : x ≤ y) (m : Nat) : clN x m ≤ clN y m := by
  unfold clN; repeat' split
  all_goals omega
theorem and_imp_false {F G : Bfn} (h : ∀ x, F x = true → G x = true) (x : Nat → Bool) : (F x && !G x) = false := by
  cases h1 : F x
  · rfl
  · rw [h x h1]; rfl
theorem most_k (links k : Int) (h : 0 ≤ k) (x : Nat → Bool) (hx : mostF links k x = true) : mostF links (k + 1) x = true := by
  unfold mostF at *
  rw [if_neg (by omega)] at *
  rw [atF_eq _ _ 12 _ (Nat.le_refl _)] at *
  refine ⟨?_, hx.2⟩
  have h1 := hx.1
  have h2 := fcnt_le x 12
  have : clN k 12 ≤ clN (k + 1) 12 := clN_mono (by omega) 12
  omega
theorem most_l (links k : Int) (h : 0 ≤ k) (x : Nat → Bool) (hx : mostF links k x = true) : mostF (links + 1) k x = true := by
  unfold mostF at *
  rw [if_neg (by omega)] at *
  rw [atF_eq _ _ 12 _ (Nat.le_refl _)] at *
  refine ⟨hx.1, fun v h1 h2 h3 => ?_⟩
  have := hx.2 v h1 h2 h3
  have : clN links 12 ≤ clN (links + 1) 12 := clN_mono (by omega) 12
  omega
theorem most_all (x : Nat → Bool) : mostF 12 12 x = true := by
  unfold mostF
  rw [if_neg (by omega), atF_eq _ _ 12 _ (Nat.le_refl _)]
  exact ⟨fcnt_le x 12, fun v _ h _ => h⟩
theorem most_neg (links : Int) (x : Nat → Bool) : mostF links (-1) x = false := by
  unfold mostF; rw [if_pos (by omega)]
theorem sets_count : ((List.range 13).all fun a => decide ((setsL (fun _ => true) a 2).length = 1 + a + a * (a - 1) / 2)) = true := by decide +kernel
theorem sets_count_at {a : Nat} (h : a < 13) : (setsL (fun _ => true) a 2).length = 1 + a + a * (a - 1) / 2 := by
  have := List.all_eq_true.1 sets_count a (List.mem_range.2 h)
  exact of_decide_eq_true this
theorem nests_num {a n : Nat} (h : a < 13) (hn : n = 1 + a + a * (a - 1) / 2) : (n : Int) = wrap64 (1 + (a : Int) + wrap64 ((wrap64 ((a : Int) * ((a : Int) - 1))).tdiv 2)) := by
  subst hn
  rcases (show a = 0 ∨ a = 1 ∨ a = 2 ∨ a = 3 ∨ a = 4 ∨ a = 5 ∨ a = 6 ∨ a = 7 ∨ a = 8 ∨ a = 9 ∨ a = 10 ∨ a = 11 ∨ a = 12 by omega) with rfl | rfl | rfl | rfl | rfl | rfl | rfl | rfl | rfl | rfl | rfl | rfl | rfl <;> decide +kernel
theorem rg_dep : rgF 2 false 1 1 (Mgr.upd (fun _ => false) 154 false) ≠ rgF 2 false 1 1 (Mgr.upd (fun _ => false) 154 true) := by decide +kernel
theorem sup_has {n c : Nat} {M : Mgr} {B : List (Int × Bfn)} {f : Int} {F : Bfn} (q : Qk n c M B) (hf : (f, F) ∈ B) {v : Nat} (hv : v < n) {a : Nat → Bool} (h : F (Mgr.upd a v false) ≠ F (Mgr.upd a v true)) : v ∈ M.supM f := by
  obtain ⟨hv1, hs⟩ := q.at hf
  obtain ⟨k, rfl, sk, _⟩ := Mgr.valid_nat q.wf hv1
  unfold Mgr.supM
  rw [if_pos hv1, Int.toNat_natCast]
  refine (Mgr.supp_iff q.wf sk v).2 ⟨by rw [q.nn]; exact hv, a, ?_⟩
  have e : ∀ x, M.sem k x = F x := fun x => by have := hs x; rw [Int.toNat_natCast] at this; exact this
  rw [e, e]; exact h

set_option maxRecDepth 100000 in
set_option maxHeartbeats 8000000 in
theorem FailureNests_walk (links k : Int) {w : World} (g : Gl w) :
    Calls Tryd.prog 13 #[.int .i64 links, .int .i64 k] w fun e w' => e = .returned (.bool true) ∧ Kp No w w' := by
  have GLW := Lib.hid g
  have AW := Lib.hid (fawake_ok g)
  have PA := Lib.hid (fun (y : World) => Pick_ok links 13 y (by omega) (by omega))
  have PB := Lib.hid (fun (y : World) => Pick_ok k 13 y (by omega) (by omega))
  have ha : pick links 13 < 13 := pick_lt links (by omega)
  have hb : pick k 13 < 13 := pick_lt k (by omega)
  generalize pick links 13 = a at *
  generalize pick k 13 = b at *
  have HA := Lib.hid ha
  have HB := Lib.hid hb
  have ha0 : (0 : Int) ≤ (a : Int) := by omega
  have ha1 : (a : Int) ≤ 12 := by omega
  have hb0 : (0 : Int) ≤ (b : Int) := by omega
  have hb1 : (b : Int) ≤ 12 := by omega
  clear g ha hb
  go_enter Tryd.func13, Tryd.ntmps13
  go_wp2_with fail
  refine AW.out.mono ?_
  rintro e w1 ⟨rfl, k1⟩
  have G1 := Lib.hid (GLW.out.no k1)
  have K1 := Lib.hid k1
  have NEW := Lib.hid (HNew_ok w1)
  clear k1 AW GLW
  go_wp2_with fail
  refine (PA.out _).mono ?_
  rintro e w' ⟨rfl, rfl⟩
  go_wp2_with fail
  refine (PB.out _).mono ?_
  rintro e w' ⟨rfl, rfl⟩
  clear PA PB
  go_wp2_with fail
  refine NEW.out.mono ?_
  rintro e w2 ⟨pm, L2, rfl, R2, k2, o2⟩
  have H2 := Lib.hid (hf_new G1.out (Kp.refl No _) R2 k2 o2).consts
  have K2 := Lib.hid (K1.out.trans_no k2)
  have O2 : Hid (∀ x, L2.at pm x → w.heap.size ≤ x) := Lib.hid (fun x hx => by have := o2 x hx; have := K1.out.size; omega)
  clear R2 k2 o2 NEW G1
  have MS := Lib.hid (fun (x y : Int) => PSt.few (n := 220) (mostF_rd x y))
  go_wp2_with fail
  refine (AtMost_any (a : Int) (b : Int) H2.out.rep H2.out.qk H2.out.gl H2.out.off (by omega)).mono ?_
  intro e w3 h3
  obtain ⟨r3, M3, L3, rfl, _, f3⟩ := H2.out.step h3
  have H3 := Lib.hid f3
  clear h3 f3 H2
  go_wp2_with fail
  refine (AtMost_any (a : Int) ((b : Int) + 1) H3.out.rep H3.out.qk H3.out.gl H3.out.off (by omega)).mono ?_
  intro e w4 h4
  obtain ⟨r4, M4, L4, rfl, _, f4⟩ := H3.out.step h4
  have H4 := Lib.hid f4
  clear h4 f4 H3
  go_wp2_with fail
  refine (NotQ H4.out.rep H4.out.qk (.head _) (MS.out _ _) (by omega)).mono ?_
  intro e w5 h5
  obtain ⟨r5, M5, L5, rfl, _, f5⟩ := H4.out.step h5
  have H5 := Lib.hid f5
  clear h5 f5 H4
  go_wp2_with fail
  refine (AndQ (F := mostF (a : Int) (b : Int)) (G := fun x => !mostF (a : Int) ((b : Int) + 1) x) H5.out.rep H5.out.qk (.tail _ (.tail _ (.head _))) (.head _) (s := 4096) ((PSt.few (n := 220) (m := 12) (Rd.op (fun x y => x && y) (mostF_rd _ _) (mostF_rd _ _).not))) (by omega)).mono ?_
  intro e w6 h6
  obtain ⟨r6, M6, L6, rfl, _, f6⟩ := H5.out.step h6
  obtain rfl : r6 = 0 := f6.qk.eq (.head _) (.tail _ (.tail _ (.tail _ (.tail _ (.head _))))) (fun x => and_imp_false (most_k (a : Int) (b : Int) hb0) x)
  have H6 := Lib.hid f6
  clear h6 f6 H5
  go_wp2_with fail
  refine (AtMost_any ((a : Int) + 1) (b : Int) H6.out.rep H6.out.qk H6.out.gl H6.out.off (by omega)).mono ?_
  intro e w7 h7
  obtain ⟨r7, M7, L7, rfl, _, f7⟩ := H6.out.step h7
  have H7 := Lib.hid f7
  clear h7 f7 H6
  go_wp2_with fail
  refine (NotQ H7.out.rep H7.out.qk (.head _) (MS.out _ _) (by omega)).mono ?_
  intro e w8 h8
  obtain ⟨r8, M8, L8, rfl, _, f8⟩ := H7.out.step h8
  have H8 := Lib.hid f8
  clear h8 f8 H7
  go_wp2_with fail
  refine (AndQ (F := mostF (a : Int) (b : Int)) (G := fun x => !mostF ((a : Int) + 1) (b : Int) x) H8.out.rep H8.out.qk (.tail _ (.tail _ (.tail _ (.tail _ (.tail _ (.head _)))))) (.head _) (s := 4096) ((PSt.few (n := 220) (m := 12) (Rd.op (fun x y => x && y) (mostF_rd _ _) (mostF_rd _ _).not))) (by omega)).mono ?_
  intro e w9 h9
  obtain ⟨r9, M9, L9, rfl, _, f9⟩ := H8.out.step h9
  obtain rfl : r9 = 0 := f9.qk.eq (.head _) (.tail _ (.tail _ (.tail _ (.tail _ (.tail _ (.tail _ (.tail _ (.head _)))))))) (fun x => and_imp_false (most_l (a : Int) (b : Int) hb0) x)
  have H9 := Lib.hid f9
  clear h9 f9 H8
  have S9 := Lib.hid (Sets_ok 1 (fun _ => true) (.tail _ (.tail _ (.tail _ (.tail _ (.tail _ (.tail _ (.tail _ (.tail _ (.head _))))))))) (fun _ _ _ => rfl) (sup_lt H9.out.qk (.tail _ (.tail _ (.tail _ (.tail _ (.tail _ (.tail _ (.tail _ (.tail _ (.head _))))))))) (fun _ _ _ => rfl)) (a : Int) 2 (by omega) (by omega) H9.out.rep H9.out.qk H9.out.gl)
  rw [show clN (a : Int) 12 = a by unfold clN; rw [if_neg (by omega), if_neg (by omega)]; omega, show (2 : Int).toNat = 2 from rfl] at S9
  have HCN : Hid ((setsL (fun _ => true) a 2).length = 1 + a + a * (a - 1) / 2) := Lib.hid (sets_count_at HA.out)
  generalize setsL (fun _ => true) a 2 = ls at *
  go_wp2_with fail
  refine S9.out.mono ?_
  rintro e wa ⟨v, gx, rfl, nest, ka⟩
  obtain ⟨vs, _, nrow, _, _⟩ := nest
  obtain ⟨av, cv, rfl⟩ := row_form nrow
  have HX := Lib.hid (H9.out.no ka)
  clear nrow ka S9 H9
  go_wp2_with fail
  refine (Range_ok 2 (by omega) false 1 1 (by omega) (by omega) HX.out.rep HX.out.qk HX.out.gl HX.out.off (by omega)).mono ?_
  intro e wb hb
  obtain ⟨rb, Mb, Lb, rfl, _, fb⟩ := HX.out.step hb
  have HY := Lib.hid fb
  have SP := Lib.hid (Sets_sup rb _ (.head _) (by omega) ⟨154, sup_has fb.qk (.head _) (by omega) rg_dep, by omega⟩ (a : Int) 1 (by omega) (by omega) fb.rep fb.qk)
  clear hb fb HX
  go_wp2_with fail
  refine SP.out.mono ?_
  rintro e wc ⟨rfl, kc⟩
  have HZ := Lib.hid (HY.out.no kc)
  clear kc SP HY
  go_wp2_with fail
  refine (AtMost_any 12 12 HZ.out.rep HZ.out.qk HZ.out.gl HZ.out.off (by omega)).mono ?_
  intro e wd hd
  obtain ⟨rd, Md, Ld, rfl, _, fd⟩ := HZ.out.step hd
  obtain rfl : rd = 1 := fd.qk.eq (.head _) (.tail _ (.tail _ (.tail _ (.tail _ (.tail _ (.tail _ (.tail _ (.tail _ (.tail _ (.tail _ (.head _))))))))))) (fun x => most_all x)
  have HD := Lib.hid fd
  clear hd fd HZ
  go_wp2_with fail
  refine (AtMost_any (a : Int) (-1) HD.out.rep HD.out.qk HD.out.gl HD.out.off (by omega)).mono ?_
  intro e we he
  obtain ⟨re, Me, Le, rfl, _, fe⟩ := HD.out.step he
  obtain rfl : re = 0 := fe.qk.eq (.head _) (.tail _ (.tail _ (.tail _ (.tail _ (.tail _ (.tail _ (.tail _ (.tail _ (.tail _ (.tail _ (.head _))))))))))) (fun x => most_neg (a : Int) x)
  have KF := Lib.hid (fe.kpNo K2.out O2.out)
  have HEQ := Lib.hid (nests_num HA.out HCN.out)
  clear he fe HD
  go_wp2_with fail
  all_goals first
    | (go_ret; exact ⟨rfl, KF.out⟩)
    | (rename_i hx; exact (hx HEQ.out).elim)

end Go.Proofs.YtgglkldoclejaaaDoor
