/-
  Walks: the law BddShares.
-/
import Derived.Test.YtifompekiockmaaAgrees
import Derived.Test.YtifompekiockmaaBank
import Derived.Test.YtifompekiockmaaSaveP
import Derived.Test.YtifompekiockmaaKeep
import Derived.Test.YtifompekiockmaaSide
import Derived.Deep.CutBlock
namespace Go.Proofs.Ytifompekiockmaa
open Go.RowKit

def sumS (M : Mgr) (fs : List Int) (k : Nat) : Nat := ((fs.take k).map fun f => M.sizeM f).sum
def maxS (M : Mgr) (fs : List Int) (k : Nat) : Nat := ((fs.take k).map fun f => M.sizeM f).foldl (fun a b => if a < b then b else a) 0
theorem sumS_succ (M : Mgr) (fs : List Int) {k : Nat} (h : k < fs.length) : sumS M fs (k + 1) = sumS M fs k + M.sizeM (fs.getD k 0) := by
  have e : fs.getD k 0 = fs[k] := by simp [h]
  unfold sumS; rw [List.take_succ_eq_append_getElem h, List.map_append, List.sum_append, e]
  simp only [List.map_cons, List.map_nil, List.sum_cons, List.sum_nil, Nat.add_zero]
theorem maxS_succ (M : Mgr) (fs : List Int) {k : Nat} (h : k < fs.length) : maxS M fs (k + 1) = if maxS M fs k < M.sizeM (fs.getD k 0) then M.sizeM (fs.getD k 0) else maxS M fs k := by
  unfold maxS; rw [List.take_succ_eq_append_getElem h, List.map_append, List.foldl_append]; simp [h]
theorem sizeM_le {M : Mgr} (h : M.WF) (f : Int) : M.sizeM f ≤ M.nodes.length := by
  unfold Mgr.sizeM
  split
  · rename_i hv
    obtain ⟨k, rfl, sk, _⟩ := Mgr.valid_nat h hv
    rw [Int.toNat_natCast]; exact Mgr.size_le h sk
  · omega
theorem sumS_le {M : Mgr} (h : M.WF) (fs : List Int) : ∀ k, k ≤ fs.length → sumS M fs k ≤ k * M.nodes.length
  | 0, _ => by simp [sumS]
  | k + 1, hk => by
    rw [sumS_succ M fs (by omega)]
    have := sumS_le h fs k (by omega)
    have := sizeM_le h (fs.getD k 0)
    rw [Nat.succ_mul]; omega
theorem maxS_le (M : Mgr) (fs : List Int) (B : Nat) (h : ∀ f ∈ fs, M.sizeM f ≤ B) : ∀ k, k ≤ fs.length → maxS M fs k ≤ B
  | 0, _ => by simp [maxS]
  | k + 1, hk => by
    rw [maxS_succ M fs (by omega)]
    have := maxS_le M fs B h k (by omega)
    have := h (fs.getD k 0) (by simp [show k < fs.length by omega])
    split <;> omega

def ShR (w : World) (M : Mgr) (fs : List Int) (gk : Nat) (s10 s11 s12 : Value) (wr : World) : Prop :=
  ∃ k, k + gk = fs.length ∧ s12 = .int .i64 (k : Int) ∧ s10 = .int .i64 (sumS M fs k : Int) ∧ s11 = .int .i64 (maxS M fs k : Int) ∧ Kp No w wr

set_option maxRecDepth 100000 in
set_option maxHeartbeats 4000000 in
theorem BddShares_walk (x : Int) (l : List Stp) {sv : Value} {w : World} (hs : StepsAt w sv l) :
    Calls Try.prog 12 #[.int .i64 x, sv] w fun e w' => e = .returned (.bool true) ∧ Kp No w w' := by
  obtain ⟨hn1, hn6⟩ := nv_le x
  have VA := Lib.hid (fun w => Vars_ok x w)
  generalize nv x = n at *
  have NEW := Lib.hid (fun (w0 : World) (k0 : Kp No w w0) => New_own (n := n) (by omega) k0)
  have ST := Lib.hid hs
  obtain ⟨ao, c, rfl, _⟩ := hs
  by_cases h40 : l.length ≤ 40
  · have hl : ¬ (40 : Int) < l.length := by omega
    go_enter Try.func12, Try.ntmps12
    go_wp2_with fail
    refine (awake_ok w).mono ?_
    rintro e w0 ⟨rfl, k0⟩
    have K0 := Lib.hid k0
    clear k0
    go_wp2_with fail
    refine (VA.out w0).mono ?_
    rintro e w0' ⟨rfl, rfl⟩
    go_wp2_with fail
    refine (NEW.out w0 K0.out).mono ?_
    rintro e w1 ⟨p, L1, rfl, s1, k1⟩
    have S1 := Lib.hid s1
    clear s1 k1 NEW
    go_wp2_with fail
    refine (Run_own hn6 hn1 S1.out (by omega) ST.out).mono ?_
    rintro e w2 ⟨fv, tv, L2, tvs, rfl, fr⟩
    obtain ⟨rp, hFl⟩ := run_rp hn1 hn6 l (by omega)
    generalize runM (Mgr.new n) n l = X at *
    generalize runF n l = Fs at *
    obtain ⟨M, fs⟩ := X
    simp only at fr rp
    have hpos := rp.pos
    have hfl : fs.length ≤ 100 := by rw [← fr.flen]; omega
    obtain ⟨gf, cf, gt, ct, rfl, rfl, lf, lt⟩ := fr.forms (by omega)
    have FR := Lib.hid fr
    have RPH := Lib.hid rp
    clear fr rp hFl
    have hcost := RPH.out.cost
    have SAV := Lib.hid (fun (wx : World) (k : Kp No w2 wx) => Save_ok fs (FR.out.no k).own.rep (SrcAt.of_row (FR.out.no k).frow) (by omega) (by unfold big; omega))
    have SA := saveM_all RPH.out.wf fs
    have hN1 : ∀ (i : Nat) (x : Nd), (saveN M (saveM M fs).1.2)[i]? = some x → x.2.1 ≠ x.2.2 ∧ x.2.1 ≤ i + 1 ∧ x.2.2 ≤ i + 1 ∧ ∀ j : Nat, (saveN M (saveM M fs).1.2)[j]? = some x → j = i := fun i x hx => SA.v.node_at RPH.out.wf hx
    have hNlen : (saveN M (saveM M fs).1.2).length ≤ sumS M fs fs.length := by rw [saveN_len]; unfold sumS; rw [List.take_length]; exact SA.sum
    have hNmax : maxS M fs fs.length ≤ (saveN M (saveM M fs).1.2).length := by
      refine maxS_le M fs _ (fun f hf => ?_) _ (Nat.le_refl _)
      rw [saveN_len]
      unfold Mgr.sizeM
      split
      · rename_i hv
        obtain ⟨k, rfl, sk, _⟩ := Mgr.valid_nat RPH.out.wf hv
        rw [Int.toNat_natCast]
        exact SA.v.sizes RPH.out.wf sk (fun h2 => by have := SA.mem _ hf hv; rw [Int.toNat_natCast] at this; exact this h2)
      · omega
    have hNb : (saveN M (saveM M fs).1.2).length ≤ 50000 := by rw [saveN_len]; exact Nat.le_trans (SA.v.len RPH.out.wf) hcost
    have hsum : ∀ k, k ≤ fs.length → sumS M fs k ≤ 100 * 50000 := fun k hk => Nat.le_trans (sumS_le RPH.out.wf fs k hk) (Nat.mul_le_mul (by omega) hcost)
    have hmax : ∀ k, k ≤ fs.length → maxS M fs k ≤ 50000 := fun k hk => maxS_le M fs 50000 (fun f _ => Nat.le_trans (sizeM_le RPH.out.wf f) hcost) k hk
    have hRlen : (saveM M fs).2.length = fs.length := saveM_len M fs
    have N1 := Lib.hid hN1
    have NLEN := Lib.hid hNlen
    have NMAX := Lib.hid hNmax
    have HSUM := Lib.hid hsum
    have HMAX := Lib.hid hmax
    have RLEN := Lib.hid hRlen
    have SZ := Lib.hid (fun f => Nat.le_trans (sizeM_le RPH.out.wf f) hcost)
    clear hN1 hNlen hNmax hsum hmax SA hRlen
    generalize saveN M (saveM M fs).1.2 = N at *
    generalize (saveM M fs).2 = R at *
    go_wp2_with fail
    refine (SAV.out w2 (Kp.refl _ _)).mono ?_
    rintro e w3 ⟨nv, rv, rfl, nrow, rrow, k3⟩
    have NROW := Lib.hid (SrcAt.of_row nrow)
    have RROW := Lib.hid (SrcAt.of_row rrow)
    obtain ⟨an, cn, rfl⟩ := NROW.out.form
    obtain ⟨ar, cr, rfl⟩ := RROW.out.form
    have K3 := Lib.hid k3
    clear nrow rrow k3
    go_upto_block 0 with (fail)
    go_cut [10, 11] (fun s10 s11 y => s10 = .int .i64 (sumS M fs fs.length : Int) ∧ s11 = .int .i64 (maxS M fs fs.length : Int) ∧ Kp No w3 y)
    case first =>
      as_aux_lemma =>
        go_wp2_with fail
        go_loopg [10, 11, 12] fs.length (fun gk s10 s11 s12 wr => ShR w3 M fs gk s10 s11 s12 wr)
        case atStart => exact ⟨0, by omega, rfl, rfl, rfl, Kp.refl _ _⟩
        case round =>
          obtain ⟨k, hk, rfl, rfl, rfl, kp⟩ := hrel
          by_cases hlt : k < fs.length
          · have fr := FR.out.no (K3.out.trans_no kp)
            have c1 := fr.cellF hlt
            have HSZ := Lib.hid (fun (wx : World) (kx : Kp No wr wx) => Size_ok (fs.getD k 0) (fr.no kx).own.rep)
            have CEL := Lib.hid (fun (wx : World) (kx : Kp No wr wx) => (fr.no kx).cellF hlt)
            have NX : Hid (∀ wx, Kp No wr wx → ShR w3 M fs (fs.length - (k + 1)) (.int .i64 ((sumS M fs k : Int) + (M.sizeM (fs.getD k 0) : Int))) (.int .i64 (if (maxS M fs k : Int) < (M.sizeM (fs.getD k 0) : Int) then (M.sizeM (fs.getD k 0) : Int) else (maxS M fs k : Int))) (.int .i64 ((k + 1 : Nat) : Int)) wx) := Lib.hid (fun wx kx => ⟨k + 1, by omega, rfl, by rw [sumS_succ M fs hlt]; simp, by
              rw [maxS_succ M fs hlt]
              by_cases h : maxS M fs k < M.sizeM (fs.getD k 0)
              · rw [if_pos h, if_pos (by omega)]
              · rw [if_neg h, if_neg (by omega)], kp.trans_no kx⟩)
            have b1 : (sumS M fs k : Int) ≤ 5000000 := by have := HSUM.out k (by omega); omega
            have b2 : (maxS M fs k : Int) ≤ 50000 := by have := HMAX.out k (by omega); omega
            have b3 : (M.sizeM (fs.getD k 0) : Int) ≤ 50000 := by have := SZ.out (fs.getD k 0); omega
            have b1' : (0 : Int) ≤ (sumS M fs k : Int) := by omega
            have b3' : (0 : Int) ≤ (M.sizeM (fs.getD k 0) : Int) := by omega
            have hlti : (k : Int) < fs.length := by omega
            have HK := Lib.hid hk
            clear hk kp fr
            generalize fs.getD k 0 = f at *
            generalize (M.sizeM f : Int) = sz at *
            generalize (sumS M fs k : Int) = sm at *
            generalize (maxS M fs k : Int) = mx at *
            go_wp2_with fail
            refine (HSZ.out wr (Kp.refl _ _)).mono ?_
            rintro e wa ⟨rfl, ka⟩
            have c2 := CEL.out wa ka
            have KA := Lib.hid ka
            clear ka c1
            go_wp2_with fail
            refine (HSZ.out wa KA.out).mono ?_
            rintro e wb ⟨rfl, kb⟩
            have NX2 := Lib.hid (NX.out wb (KA.out.trans_no kb))
            clear kb c2
            by_cases hmx : mx < sz
            · rw [if_pos hmx] at NX2
              go_wp2_with fail
              go_roundg (fs.length - (k + 1))
              case measure => have := HK.out; omega
              case rel => exact NX2.out
            · rw [if_neg hmx] at NX2
              go_wp2_with fail
              go_roundg (fs.length - (k + 1))
              case measure => have := HK.out; omega
              case rel => exact NX2.out
          · obtain rfl : k = fs.length := by omega
            have KP := Lib.hid kp
            have hge : ¬ (fs.length : Int) < fs.length := by omega
            clear kp hk
            go_wp2_with fail
            go_meet
            case rel => exact ⟨rfl, rfl, KP.out⟩
    case rest =>
    obtain ⟨e10, e11, kc⟩ := hcut
    subst e10 e11
    have KC := Lib.hid kc
    clear kc
    have b0 : (N.length : Int) ≤ (sumS M fs fs.length : Int) := by have := NLEN.out; omega
    have b1 : (maxS M fs fs.length : Int) ≤ (N.length : Int) := by have := NMAX.out; omega
    generalize (sumS M fs fs.length : Int) = sm at *
    generalize (maxS M fs fs.length : Int) = mx at *
    go_upto_block 2 with (fail)
    go_cut [] (fun y => Kp No w3 y)
    case first =>
      as_aux_lemma =>
        go_wp2_with fail
        go_loopg [13] N.length (fun gk s13 wr => LpR w3 N.length gk s13 wr)
        case atStart => exact ⟨0, by omega, rfl, KC.out⟩
        case round =>
          obtain ⟨k, hk, rfl, kp⟩ := hrel
          obtain ⟨wo, rfl⟩ : ∃ wo : World, wo = wr := ⟨_, rfl⟩
          by_cases hlt : k < N.length
          · have HK := Lib.hid hk
            have KP := Lib.hid kp
            have hlti : (k : Int) < N.length := by omega
            clear hk kp
            go_wp2_with fail
            go_loopg [14] k (fun gk s14 wr => LpR wo k gk s14 wr)
            case atStart => exact ⟨0, by omega, rfl, Kp.refl _ _⟩
            case round =>
              obtain ⟨j, hj, rfl, kpj⟩ := hrel
              obtain ⟨g1, o1, c1, hv1, _, hc1⟩ := (NROW.out.no (KP.out.trans_no kpj)).cellAt (by omega)
              cases hv1
              obtain ⟨e0, e1, e2⟩ := flat_get hlt
              have f0 : wr.cell? ⟨g1, o1 + k * 3, none⟩ = some (.int .i64 (N.getD k (0, 0, 0)).1) := hc1 _ _ e0
              have f1 : wr.cell? ⟨g1, o1 + k * 3 + 1, none⟩ = some (.int .i64 ((N.getD k (0, 0, 0)).2.1 : Int)) := hc1 _ _ e1
              have f2 : wr.cell? ⟨g1, o1 + k * 3 + 2, none⟩ = some (.int .i64 ((N.getD k (0, 0, 0)).2.2 : Int)) := hc1 _ _ e2
              have hg : N[k]? = some (N.getD k (0, 0, 0)) := by simp [hlt]
              obtain ⟨n1, n2, n3, n4⟩ := N1.out k _ hg
              by_cases hjt : j < k
              · have hjl : j < N.length := by omega
                obtain ⟨e3, e4, e5⟩ := flat_get hjl
                have f3 : wr.cell? ⟨g1, o1 + j * 3, none⟩ = some (.int .i64 (N.getD j (0, 0, 0)).1) := hc1 _ _ e3
                have f4 : wr.cell? ⟨g1, o1 + j * 3 + 1, none⟩ = some (.int .i64 ((N.getD j (0, 0, 0)).2.1 : Int)) := hc1 _ _ e4
                have f5 : wr.cell? ⟨g1, o1 + j * 3 + 2, none⟩ = some (.int .i64 ((N.getD j (0, 0, 0)).2.2 : Int)) := hc1 _ _ e5
                have hgj : N[j]? = some (N.getD j (0, 0, 0)) := by simp [hjl]
                have hne : N.getD j (0, 0, 0) ≠ N.getD k (0, 0, 0) := fun e => by
                  have := n4 j (by rw [hgj, e])
                  omega
                have HNE := Lib.hid hne
                have hj1 : (j : Int) < k := by omega
                have hj2 : (j : Int) < N.length := by omega
                have HJ := Lib.hid hj
                have KJ := Lib.hid kpj
                clear hj kpj hc1 e0 e1 e2 e3 e4 e5 hg n1 n2 n3 n4 hgj hne
                generalize N.getD k (0, 0, 0) = xk at *
                generalize N.getD j (0, 0, 0) = xj at *
                have fin : Hid (∀ m, LpR wo k (k - (j + 1)) (.int .i64 ((j + 1 : Nat) : Int)) (wr.drewN m)) := Lib.hid (fun m => ⟨j + 1, by omega, rfl, KJ.out.trans_no (Kp.drewN _)⟩)
                by_cases q1 : xj.1 = xk.1
                · have p1 : (xj.1 == xk.1) = true := by simpa using q1
                  by_cases q2 : xj.2.1 = xk.2.1
                  · have p2 : ((xj.2.1 : Int) == (xk.2.1 : Int)) = true := by simp [q2]
                    have q3 : ¬ xj.2.2 = xk.2.2 := fun e => HNE.out (Prod.ext q1 (Prod.ext q2 e))
                    have p3 : ((xj.2.2 : Int) == (xk.2.2 : Int)) = false := by simp; omega
                    clear q1 q2 q3
                    go_wp2_with fail
                    go_quiet (fail)
                    go_wp2_with fail
                    go_roundg (k - (j + 1))
                    case measure => have := HJ.out; omega
                    case rel => exact fin.out _
                  · have p2 : ((xj.2.1 : Int) == (xk.2.1 : Int)) = false := by simp; omega
                    clear q1 q2
                    go_wp2_with fail
                    go_quiet (fail)
                    go_wp2_with fail
                    go_roundg (k - (j + 1))
                    case measure => have := HJ.out; omega
                    case rel => exact fin.out _
                · have p1 : (xj.1 == xk.1) = false := by simpa using q1
                  clear q1
                  go_wp2_with fail
                  go_quiet (fail)
                  go_wp2_with fail
                  go_roundg (k - (j + 1))
                  case measure => have := HJ.out; omega
                  case rel => exact fin.out _
              · obtain rfl : j = k := by omega
                have hge : ¬ (j : Int) < j := by omega
                have KJ := Lib.hid (KP.out.trans_no kpj)
                have p1 : (((N.getD j (0, 0, 0)).2.1 : Int) == ((N.getD j (0, 0, 0)).2.2 : Int)) = false := beq_eq_false_iff_ne.2 (by omega)
                have p2 : decide ((j : Int) + 1 < ((N.getD j (0, 0, 0)).2.1 : Int)) = false := decide_eq_false (by omega)
                have p3 : decide ((j : Int) + 1 < ((N.getD j (0, 0, 0)).2.2 : Int)) = false := decide_eq_false (by omega)
                have hjb : (j : Int) ≤ 50000 := by omega
                have hjw : IntKind.i64.wrap ((j : Int) + 1) = (j : Int) + 1 := IntWalk.i64_in _ (by omega)
                clear hj kpj hc1 e0 e1 e2 hg n1 n2 n3 n4
                generalize N.getD j (0, 0, 0) = xk at *
                go_wp2_with fail
                go_quiet (fail)
                clear hjw
                go_wp2_with fail
                go_roundg (N.length - (j + 1))
                case measure => have := HK.out; omega
                case rel => exact ⟨j + 1, by omega, by go_num, KJ.out.trans_no (Kp.drewN _)⟩
          · obtain rfl : k = N.length := by omega
            have KP := Lib.hid kp
            have hge : ¬ (N.length : Int) < N.length := by omega
            clear kp hk
            go_wp2_with fail
            go_meet
            case rel => exact KP.out
    case rest =>
    have KD := Lib.hid hcut
    clear hcut KC
    go_wp2_with fail
    refine (SAV.out _ (K3.out.trans_no KD.out)).mono ?_
    rintro e w4 ⟨nv2, rv2, rfl, nrow2, rrow2, k4⟩
    have NR := Lib.hid (And.intro ((NROW.out.no KD.out).no k4) (SrcAt.of_row nrow2))
    have RR := Lib.hid (And.intro ((RROW.out.no KD.out).no k4) (SrcAt.of_row rrow2))
    obtain ⟨an2, cn2, rfl⟩ := NR.out.2.form
    obtain ⟨ar2, cr2, rfl⟩ := RR.out.2.form
    have K4 := Lib.hid (((FR.out.own.kp.trans_no K3.out).trans_no KD.out).trans_no k4)
    have RB : R.length ≤ 1000000 := by rw [RLEN.out]; omega
    have hNb2 : N.length ≤ 1000000 := by omega
    have IE := Lib.hid (fun m => Ints_eq (RR.out.1.no (Kp.drewN m)) (RR.out.2.no (Kp.drewN m)) RB)
    have p1 : ((R.length : Int) == (fs.length : Int)) = true := by rw [RLEN.out]; simp
    have p2 : decide ((N.length : Int) ≤ sm) = true := by simpa using b0
    have p3 : decide (mx ≤ (N.length : Int)) = true := by simpa using b1
    clear nrow2 rrow2 k4
    go_wp2_with fail
    refine (Nodes_eq NR.out.1 NR.out.2 hNb2).mono ?_
    rintro e w5 ⟨rfl, m, hw5⟩
    have HW5 := Lib.hid hw5
    have IE2 := Lib.hid (by have := IE.out m; rw [← hw5] at this; exact this)
    clear hw5
    go_wp2_with fail
    refine IE2.out.mono ?_
    rintro e w6 ⟨rfl, m6, hw6⟩
    have HW6 := Lib.hid hw6
    clear hw6
    go_wp2_with fail
    go_ret
    exact ⟨rfl, by rw [HW6.out, HW5.out]; exact (K4.out.trans_no (Kp.drewN _)).trans_no (Kp.drewN _)⟩
  · have hl : (40 : Int) < l.length := by omega
    go_enter Try.func12, Try.ntmps12
    go_wp2_with fail
    refine (awake_ok w).mono ?_
    rintro e w0 ⟨rfl, k0⟩
    have K0 := Lib.hid k0
    clear k0
    go_wp2_with fail
    go_ret
    exact ⟨rfl, K0.out⟩

end Go.Proofs.Ytifompekiockmaa
