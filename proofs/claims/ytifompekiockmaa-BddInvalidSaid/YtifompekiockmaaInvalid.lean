/-
  Walks: the law BddInvalid.
-/
import Derived.Test.YtifompekiockmaaAgrees
import Derived.Test.YtifompekiockmaaBank
import Derived.Test.YtifompekiockmaaSaveP
import Derived.Test.YtifompekiockmaaSup
import Derived.Test.YtifompekiockmaaTop
import Derived.Test.YtifompekiockmaaSide
namespace Go.Proofs.Ytifompekiockmaa
open Go.RowKit

section
variable {p : Nat} {M : Mgr} {L : Lay} {w : World} {b f g : Int}
theorem iteM_bad (h : ¬ (M.valid b = true ∧ M.valid f = true ∧ M.valid g = true)) : M.iteM b f g = (M, -1) := if_neg h
theorem Not_bad (R : Rep w p M L) (hb : M.valid b = false) (hl : M.nodes.length ≤ big) : Calls Try.prog 24 #[ptr p, .int .i64 b] w (Ret p L w M (.int .i64 (-1))) := by
  have e : M.notM b = (M, -1) := if_neg (fun h => by rw [hb] at h; exact Bool.noConfusion h.1)
  have := Not_ok b R (by rw [e]; exact hl)
  rw [e] at this; exact this
theorem And_bad (R : Rep w p M L) (hb : M.valid b = false) (hl : M.nodes.length ≤ big) : Calls Try.prog 20 #[ptr p, .int .i64 f, .int .i64 b] w (Ret p L w M (.int .i64 (-1))) := by
  have e : M.andM f b = (M, -1) := if_neg (fun h => by rw [hb] at h; exact Bool.noConfusion h.2.1)
  have := And_ok f b R (by rw [e]; exact hl)
  rw [e] at this; exact this
theorem Or_bad (R : Rep w p M L) (hb : M.valid b = false) (hl : M.nodes.length ≤ big) : Calls Try.prog 22 #[ptr p, .int .i64 b, .int .i64 f] w (Ret p L w M (.int .i64 (-1))) := by
  have e : M.orM b f = (M, -1) := if_neg (fun h => by rw [hb] at h; exact Bool.noConfusion h.1)
  have := Or_ok b f R (by rw [e]; exact hl)
  rw [e] at this; exact this
theorem Xor_bad (R : Rep w p M L) (hb : M.valid b = false) (hl : M.nodes.length ≤ big) : Calls Try.prog 21 #[ptr p, .int .i64 f, .int .i64 b] w (Ret p L w M (.int .i64 (-1))) := by
  have e : M.xorM f b = (M, -1) := if_neg (fun h => by rw [hb] at h; exact Bool.noConfusion h.2)
  have := Xor_ok f b R (by rw [e]; exact hl)
  rw [e] at this; exact this
theorem Ite_bad {h : Int} (R : Rep w p M L) (hb : M.valid f = false ∨ M.valid g = false ∨ M.valid h = false) (hl : M.nodes.length ≤ big) : Calls Try.prog 35 #[ptr p, .int .i64 f, .int .i64 g, .int .i64 h] w (Ret p L w M (.int .i64 (-1))) := by
  have e : M.iteM f g h = (M, -1) := if_neg (fun x => by
    rcases hb with hb | hb | hb
    · rw [hb] at x; exact Bool.noConfusion x.1
    · rw [hb] at x; exact Bool.noConfusion x.2.1
    · rw [hb] at x; exact Bool.noConfusion x.2.2)
  have := Ite_ok f g h R (by rw [e]; exact hl)
  rw [e] at this; exact this
theorem Restrict_bad {v : Int} {x : Bool} (R : Rep w p M L) (hb : M.valid f = false ∨ ¬ (0 ≤ v ∧ v < M.n)) (hl : M.nodes.length ≤ big) : Calls Try.prog 36 #[ptr p, .int .i64 f, .int .i64 v, .bool x] w (Ret p L w M (.int .i64 (-1))) := by
  have e : M.restrictM f v x = (M, -1) := if_neg (fun y => by
    rcases hb with hb | hb
    · rw [hb] at y; exact Bool.noConfusion y.1
    · exact hb y.2)
  have := Restrict_ok f v x R (by rw [e]; exact hl)
  rw [e] at this; exact this
theorem Var_bad {v : Int} (R : Rep w p M L) (hb : ¬ (0 ≤ v ∧ v < M.n)) (hl : M.nodes.length ≤ big) : Calls Try.prog 19 #[ptr p, .int .i64 v] w (Ret p L w M (.int .i64 (-1))) := by
  have e : M.varM v = (M, -1) := if_neg hb
  have := Var_ok v R (by rw [e]; exact hl)
  rw [e] at this; exact this
theorem Top_bad (R : Rep w p M L) (hb : M.valid f = false) : Calls Try.prog 44 #[ptr p, .int .i64 f] w (Ret p L w M (.tuple #[.int .i64 0, .int .i64 0, .int .i64 0, .bool false])) := by
  have e1 : topM M f = M := if_neg (fun x => by rw [hb] at x; exact Bool.noConfusion x.1)
  have e2 : topV M f = .tuple #[.int .i64 0, .int .i64 0, .int .i64 0, .bool false] := if_neg (fun x => by rw [hb] at x; exact Bool.noConfusion x.1)
  have := Top_ok f R
  rw [e1, e2] at this; exact this
theorem Eval_bad {v : Value} {l : List Bool} (R : Rep w p M L) (hb : M.valid f = false) (hl : Bools w v l) : Calls Try.prog 31 #[ptr p, .int .i64 f, v] w fun e w' => e = .returned (.bool false) ∧ Kp No w w' := by
  have e : M.evalM f l = false := if_neg (by rw [hb]; exact fun h => Bool.noConfusion h)
  have := Eval_ok f R hl
  rw [e] at this; exact this
theorem Size_bad (R : Rep w p M L) (hb : M.valid f = false) : Calls Try.prog 23 #[ptr p, .int .i64 f] w fun e w' => e = .returned (.int .i64 0) ∧ Kp No w w' := by
  have e : M.sizeM f = 0 := if_neg (by rw [hb]; exact fun h => Bool.noConfusion h)
  have := Size_ok f R
  rw [e] at this; exact this
theorem Support_bad (R : Rep w p M L) (hn : M.n ≤ 256) (hb : M.valid f = false) : Calls Try.prog 32 #[ptr p, .int .i64 f] w fun e w' => ∃ ao c, e = .returned (.slice ao 0 c) ∧ Kp No w w' := by
  have e : M.supM f = [] := if_neg (by rw [hb]; exact fun h => Bool.noConfusion h)
  have := Support_ok f R hn
  rw [e] at this
  refine this.mono ?_
  rintro e w' ⟨v, rfl, h1, h2⟩
  obtain ⟨a, c, hv, _⟩ := ownsRow_len (row_zero h1)
  exact ⟨a, c, by rw [hv]; rfl, h2⟩
end

/-- The nodes of a list that has one valid element. -/
theorem save_one {M : Mgr} (b f : Int) (hb : M.valid b = false) (hf : M.valid f = true) : (saveN M (saveM M [b, f]).1.2).length = M.sizeM f ∧ (saveM M [b, f]).2.length = 2 ∧ ∃ q, (saveM M [b, f]).2 = [-1, q] := by
  have h1 : saveM M [b, f] = (M.walkS (M.n + 1) ([], []) f.toNat, [-1, (code0 (M.walkS (M.n + 1) ([], []) f.toNat).2 f.toNat : Int)]) := by
    simp [saveM, saveStep, hb, hf]
  rw [h1, saveN_len]
  refine ⟨?_, rfl, _, rfl⟩
  unfold Mgr.sizeM
  rw [if_pos hf]
  rfl

theorem bneq_of {a b : Int} (h : a ≠ b) : (a == b) = false := by simpa using h

set_option maxRecDepth 100000 in
set_option maxHeartbeats 4000000 in
theorem BddInvalid_walk (x : Int) (l : List Stp) {sv : Value} {w : World} (hs : StepsAt w sv l) (bl v y : Int) (hbl : 0 ≤ bl ∧ bl ≤ 4294967295) :
    Calls Try.prog 15 #[.int .i64 x, sv, .int .u32 bl, .int .i64 v, .int .i64 y] w fun e w' => e = .returned (.bool true) ∧ Kp No w w' := by
  obtain ⟨hn1, hn6⟩ := nv_le x
  have VA := Lib.hid (fun w => Vars_ok x w)
  generalize nv x = n at *
  have NEW := Lib.hid (fun (w0 : World) (k0 : Kp No w w0) => New_own (n := n) (by omega) k0)
  have ST := Lib.hid hs
  obtain ⟨ao, c, rfl, _⟩ := hs
  by_cases h40 : l.length ≤ 20
  · have hl : ¬ (20 : Int) < l.length := by omega
    go_enter Try.func15, Try.ntmps15
    go_wp2_with fail
    refine (awake_ok w).mono ?_
    rintro e w0 ⟨rfl, k0⟩
    have K0 := Lib.hid k0
    clear k0
    go_wp2_with fail
    refine (VA.out w0).mono ?_
    rintro e w0' ⟨rfl, rfl⟩
    go_wp2_with fail
    refine (NEW.out w0 K0.out).mono ?_
    rintro e w1 ⟨p, L1, rfl, s1, k1⟩
    have S1 := Lib.hid s1
    clear s1 k1 NEW
    go_wp2_with fail
    refine (Run_own hn6 hn1 S1.out (by omega) ST.out).mono ?_
    rintro e w2 ⟨fv, tv, L2, tvs, rfl, fr⟩
    obtain ⟨rp, hFl⟩ := run_rp hn1 hn6 l (by omega)
    generalize runM (Mgr.new n) n l = X at *
    generalize runF n l = Fs at *
    obtain ⟨M, fs⟩ := X
    simp only at fr rp
    have hpos := rp.pos
    have hfl : fs.length ≤ 100 := by rw [← fr.flen]; omega
    obtain ⟨gf, cf, gt, ct, rfl, rfl, lf, lt⟩ := fr.forms (by omega)
    have FR := Lib.hid fr
    have RPH := Lib.hid rp
    clear fr rp hFl
    have hcost := RPH.out.cost
    have hpk := pick_lt y (n := fs.length) (by omega)
    have PKC := Lib.hid (Pick_ok y fs.length w2 (by omega) (by omega))
    have c1 := FR.out.cellF hpk
    have hqi : (pick y fs.length : Int) < fs.length := by omega
    have BK0 := Lib.hid ((Bk.of_rp RPH.out).sub (B' := [(fs.getD (pick y fs.length) 0, Fs.getD (pick y fs.length) (fun _ => false))]) (fun x hx => by
      simp only [List.mem_cons, List.not_mem_nil, or_false] at hx
      subst hx
      exact mem_zip hpk FR.out.flen))
    obtain ⟨bad, hbad⟩ : ∃ b : Int, b = if y < 0 then 1099511627776 + bl else -1 - bl := ⟨_, rfl⟩
    have hv0 : M.valid bad = false := by
      have hsh := RPH.out.wf.sh
      by_cases hy : y < 0
      · rw [if_pos hy] at hbad
        have : M.vis bad.toNat = false := by
          unfold Mgr.vis
          rw [List.getD_eq_getElem?_getD, List.getElem?_eq_none (by omega)]; rfl
        simp [Mgr.valid, this]
      · rw [if_neg hy] at hbad
        have : ¬ 0 ≤ bad := by omega
        simp [Mgr.valid, this]
    have hvf := (BK0.out.at (List.Mem.head _)).1
    have HLB : Hid (M.nodes.length ≤ big) := Lib.hid (by unfold big; omega)
    have HMN : Hid (M.n = n) := Lib.hid RPH.out.nn
    have o0 := FR.out.own
    have HVB := Lib.hid hv0
    have HVF := Lib.hid hvf
    generalize fs.getD (pick y fs.length) 0 = f at *
    generalize Fs.getD (pick y fs.length) (fun _ => false) = F at *
    generalize pick y fs.length = q at *
    have hbl1 := hbl.1
    have hbl2 := hbl.2
    have HWF := Lib.hid RPH.out.wf
    clear hv0 hvf hbl FR RPH
    have SO : Hid (saveN M (saveM M [bad, f]).1.2 = saveN M (saveM M [bad, f]).1.2) := Lib.hid rfl
    obtain ⟨so1, so2, so3⟩ := save_one bad f HVB.out HVF.out
    obtain ⟨rq, so3⟩ := so3
    have SO1 := Lib.hid so1
    have SO3 := Lib.hid so3
    have hszb : M.sizeM f ≤ 50000 := by
      unfold Mgr.sizeM
      rw [if_pos HVF.out]
      obtain ⟨k, hk, sk, _⟩ := Mgr.valid_nat HWF.out HVF.out
      exact Nat.le_trans (Mgr.size_le HWF.out (by rw [hk, Int.toNat_natCast]; exact sk)) hcost
    clear SO so1 so2 so3 S1 ST VA K0 hpos hfl lf lt
    have HBAD := Lib.hid hbad
    clear hbad
    go_wp2_with fail
    refine PKC.out.mono ?_
    rintro e w2' ⟨rfl, rfl⟩
    clear PKC
    have inr : Hid ((0 ≤ v ∧ v < (n : Int)) ∨ ¬ (0 ≤ v ∧ v < (n : Int))) := Lib.hid (Classical.em _)
    by_cases hy : y < 0
    · have E : Hid (bad = 1099511627776 + bl) := Lib.hid (by rw [HBAD.out, if_pos hy])
      clear HBAD
      go_upto_region 14 with (fail)
      rw [← E.out]
      as_aux_lemma =>
        go_wp2_with fail
        refine (valid_as _ false o0.rep HVB.out).mono ?_
        rintro e w' ⟨rfl, rfl⟩
        go_wp2_with fail
        refine (Not_bad o0.rep HVB.out HLB.out).mono ?_
        intro e v1 hr
        obtain ⟨rfl, L_1, o1⟩ := o0.step hr
        clear hr o0
        go_wp2_with fail
        refine (And_bad o1.rep HVB.out HLB.out).mono ?_
        intro e v2 hr
        obtain ⟨rfl, L_2, o2⟩ := o1.step hr
        clear hr o1
        go_wp2_with fail
        refine (Or_bad o2.rep HVB.out HLB.out).mono ?_
        intro e v3 hr
        obtain ⟨rfl, L_3, o3⟩ := o2.step hr
        clear hr o2
        go_wp2_with fail
        refine (Xor_bad o3.rep HVB.out HLB.out).mono ?_
        intro e v4 hr
        obtain ⟨rfl, L_4, o4⟩ := o3.step hr
        clear hr o3
        go_wp2_with fail
        refine (Ite_bad o4.rep (.inl HVB.out) HLB.out).mono ?_
        intro e v5 hr
        obtain ⟨rfl, L_5, o5⟩ := o4.step hr
        clear hr o4
        go_wp2_with fail
        refine (Ite_bad o5.rep (.inr (.inl HVB.out)) HLB.out).mono ?_
        intro e v6 hr
        obtain ⟨rfl, L_6, o6⟩ := o5.step hr
        clear hr o5
        go_wp2_with fail
        refine (Ite_bad o6.rep (.inr (.inr HVB.out)) HLB.out).mono ?_
        intro e v7 hr
        obtain ⟨rfl, L_7, o7⟩ := o6.step hr
        clear hr o6
        go_wp2_with fail
        refine (Restrict_bad o7.rep (.inl HVB.out) HLB.out).mono ?_
        intro e v8 hr
        obtain ⟨rfl, L_8, o8⟩ := o7.step hr
        clear hr o7
        go_wp2_with fail
        refine (Top_bad o8.rep HVB.out).mono ?_
        intro e v9 hr
        obtain ⟨rfl, L_9, o9⟩ := o8.step hr
        clear hr o8
        go_wp2_with fail
        refine (Eval_bad (l := [true, true]) (o9.rep.no (Kp.alloc _)) HVB.out (bools_new _ [true, true] (by simp [maxLen_val]))).mono ?_
        rintro e v10 ⟨rfl, kk⟩
        have o10 := o9.no ((Kp.alloc _).trans_no kk)
        clear kk o9
        go_wp2_with fail
        refine (Support_bad o10.rep (by rw [HMN.out]; omega) HVB.out).mono ?_
        rintro e v11 ⟨ao2, c2, rfl, kk⟩
        have o11 := o10.no kk
        clear kk o10
        go_wp2_with fail
        refine (Size_bad o11.rep HVB.out).mono ?_
        rintro e v12 ⟨rfl, kk⟩
        have o12 := o11.no kk
        clear kk o11
        go_wp2_with fail
        have SV : Hid (Calls _ _ _ _ _) := Lib.hid (Save_ok [bad, f] (o12.rep.no (Kp.alloc _)) (fsv := .slice (some ⟨v12.heap.size, 0, none⟩) 2 2) (SrcAt.of_row (base := 0) (e := 26) ⟨rfl, .inr ⟨v12.heap.size, 2, #[.int .i64 bad, .int .i64 f], rfl, Nat.zero_le _, heap_alloc_new _ _, Nat.le_refl _, by simp [maxLen_val], rfl, rfl⟩⟩) (by simp) (by have := HLB.out; unfold big at this ⊢; omega))
        refine SV.out.mono ?_
        rintro e v13 ⟨nv, rv, rfl, nrow, rrow, kk⟩
        have o13 := o12.no ((Kp.alloc _).trans_no kk)
        rw [SO1.out] at nrow
        rw [SO3.out] at rrow
        obtain ⟨an, cn, rfl, _⟩ := ownsRow_len (row_zero nrow)
        obtain ⟨gr, cr, rfl, _, _, _, hrc, _⟩ := ownsRow_open rrow (by simp)
        have hr0 : v13.cell? ⟨gr, 0, none⟩ = some (.int .i64 (-1)) := hrc 0 _ rfl
        have hszi : (M.sizeM f : Int) ≤ 50000 := by omega
        clear kk o12 SV nrow rrow hrc
        simp only [List.length_cons, List.length_nil] at *
        go_wp2_with fail
        refine (Size_ok f o13.rep).mono ?_
        rintro e v14 ⟨rfl, kk⟩
        have o14 := o13.no kk
        clear kk o13
        rcases inr.out with hin | hin
        · obtain ⟨vn, rfl⟩ := Int.eq_ofNat_of_zero_le hin.1
          have hvn : vn < n := by omega
          have h1 : (0 : Int) ≤ (vn : Int) := by omega
          have h2 : (vn : Int) < n := by omega
          clear hin
          go_wp2_with fail
          refine (VarB o14.rep BK0.out (by omega) hvn).mono ?_
          rintro e va ⟨r1, N1, hr, bk1, hr1⟩
          obtain ⟨rfl, La, oa⟩ := o14.step hr
          have z1 : (r1 == -1) = false := bneq_of (by omega)
          have B1 := Lib.hid bk1
          clear hr bk1 o14
          go_wp2_with fail
          refine (RestrictB hn6 oa.rep B1.out (by omega) (.tail _ (.head _)) hvn true).mono ?_
          rintro e vb ⟨r2, N2, hr, bk2, hr2⟩
          obtain ⟨rfl, Lb, ob⟩ := oa.step hr
          have z2 : (r2 == -1) = false := bneq_of (by omega)
          have KF := Lib.hid ob.kp
          clear hr bk2 oa ob
          go_wp2_with fail
          go_ret
          exact ⟨rfl, KF.out⟩
        · have hin2 : ¬ (0 ≤ v ∧ v < (M.n : Int)) := by rw [HMN.out]; exact hin
          by_cases h1 : 0 ≤ v
          · have h2 : ¬ v < (n : Int) := fun h => hin ⟨h1, h⟩
            have h3 : decide (v < (n : Int)) = false := decide_eq_false h2
            clear hin
            go_wp2_with fail
            refine (Var_bad o14.rep hin2 HLB.out).mono ?_
            intro e va hr
            obtain ⟨rfl, La, oa⟩ := o14.step hr
            clear hr o14
            go_wp2_with fail
            refine (Restrict_bad oa.rep (.inr hin2) HLB.out).mono ?_
            intro e vb hr
            obtain ⟨rfl, Lb, ob⟩ := oa.step hr
            have KF := Lib.hid ob.kp
            clear hr oa ob
            go_wp2_with fail
            go_ret
            exact ⟨rfl, KF.out⟩
          · have h2 : v < 0 := by omega
            have h3 : decide (0 ≤ v) = false := decide_eq_false h1
            clear hin
            go_wp2_with fail
            refine (Var_bad o14.rep hin2 HLB.out).mono ?_
            intro e va hr
            obtain ⟨rfl, La, oa⟩ := o14.step hr
            clear hr o14
            go_wp2_with fail
            refine (Restrict_bad oa.rep (.inr hin2) HLB.out).mono ?_
            intro e vb hr
            obtain ⟨rfl, Lb, ob⟩ := oa.step hr
            have KF := Lib.hid ob.kp
            clear hr oa ob
            go_wp2_with fail
            go_ret
            exact ⟨rfl, KF.out⟩
    · have E : Hid (bad = -1 - bl) := Lib.hid (by rw [HBAD.out, if_neg hy])
      clear HBAD
      go_upto_region 14 with (fail)
      rw [← E.out]
      as_aux_lemma =>
        go_wp2_with fail
        refine (valid_as _ false o0.rep HVB.out).mono ?_
        rintro e w' ⟨rfl, rfl⟩
        go_wp2_with fail
        refine (Not_bad o0.rep HVB.out HLB.out).mono ?_
        intro e v1 hr
        obtain ⟨rfl, L_1, o1⟩ := o0.step hr
        clear hr o0
        go_wp2_with fail
        refine (And_bad o1.rep HVB.out HLB.out).mono ?_
        intro e v2 hr
        obtain ⟨rfl, L_2, o2⟩ := o1.step hr
        clear hr o1
        go_wp2_with fail
        refine (Or_bad o2.rep HVB.out HLB.out).mono ?_
        intro e v3 hr
        obtain ⟨rfl, L_3, o3⟩ := o2.step hr
        clear hr o2
        go_wp2_with fail
        refine (Xor_bad o3.rep HVB.out HLB.out).mono ?_
        intro e v4 hr
        obtain ⟨rfl, L_4, o4⟩ := o3.step hr
        clear hr o3
        go_wp2_with fail
        refine (Ite_bad o4.rep (.inl HVB.out) HLB.out).mono ?_
        intro e v5 hr
        obtain ⟨rfl, L_5, o5⟩ := o4.step hr
        clear hr o4
        go_wp2_with fail
        refine (Ite_bad o5.rep (.inr (.inl HVB.out)) HLB.out).mono ?_
        intro e v6 hr
        obtain ⟨rfl, L_6, o6⟩ := o5.step hr
        clear hr o5
        go_wp2_with fail
        refine (Ite_bad o6.rep (.inr (.inr HVB.out)) HLB.out).mono ?_
        intro e v7 hr
        obtain ⟨rfl, L_7, o7⟩ := o6.step hr
        clear hr o6
        go_wp2_with fail
        refine (Restrict_bad o7.rep (.inl HVB.out) HLB.out).mono ?_
        intro e v8 hr
        obtain ⟨rfl, L_8, o8⟩ := o7.step hr
        clear hr o7
        go_wp2_with fail
        refine (Top_bad o8.rep HVB.out).mono ?_
        intro e v9 hr
        obtain ⟨rfl, L_9, o9⟩ := o8.step hr
        clear hr o8
        go_wp2_with fail
        refine (Eval_bad (l := [true, true]) (o9.rep.no (Kp.alloc _)) HVB.out (bools_new _ [true, true] (by simp [maxLen_val]))).mono ?_
        rintro e v10 ⟨rfl, kk⟩
        have o10 := o9.no ((Kp.alloc _).trans_no kk)
        clear kk o9
        go_wp2_with fail
        refine (Support_bad o10.rep (by rw [HMN.out]; omega) HVB.out).mono ?_
        rintro e v11 ⟨ao2, c2, rfl, kk⟩
        have o11 := o10.no kk
        clear kk o10
        go_wp2_with fail
        refine (Size_bad o11.rep HVB.out).mono ?_
        rintro e v12 ⟨rfl, kk⟩
        have o12 := o11.no kk
        clear kk o11
        go_wp2_with fail
        have SV : Hid (Calls _ _ _ _ _) := Lib.hid (Save_ok [bad, f] (o12.rep.no (Kp.alloc _)) (fsv := .slice (some ⟨v12.heap.size, 0, none⟩) 2 2) (SrcAt.of_row (base := 0) (e := 26) ⟨rfl, .inr ⟨v12.heap.size, 2, #[.int .i64 bad, .int .i64 f], rfl, Nat.zero_le _, heap_alloc_new _ _, Nat.le_refl _, by simp [maxLen_val], rfl, rfl⟩⟩) (by simp) (by have := HLB.out; unfold big at this ⊢; omega))
        refine SV.out.mono ?_
        rintro e v13 ⟨nv, rv, rfl, nrow, rrow, kk⟩
        have o13 := o12.no ((Kp.alloc _).trans_no kk)
        rw [SO1.out] at nrow
        rw [SO3.out] at rrow
        obtain ⟨an, cn, rfl, _⟩ := ownsRow_len (row_zero nrow)
        obtain ⟨gr, cr, rfl, _, _, _, hrc, _⟩ := ownsRow_open rrow (by simp)
        have hr0 : v13.cell? ⟨gr, 0, none⟩ = some (.int .i64 (-1)) := hrc 0 _ rfl
        have hszi : (M.sizeM f : Int) ≤ 50000 := by omega
        clear kk o12 SV nrow rrow hrc
        simp only [List.length_cons, List.length_nil] at *
        go_wp2_with fail
        refine (Size_ok f o13.rep).mono ?_
        rintro e v14 ⟨rfl, kk⟩
        have o14 := o13.no kk
        clear kk o13
        rcases inr.out with hin | hin
        · obtain ⟨vn, rfl⟩ := Int.eq_ofNat_of_zero_le hin.1
          have hvn : vn < n := by omega
          have h1 : (0 : Int) ≤ (vn : Int) := by omega
          have h2 : (vn : Int) < n := by omega
          clear hin
          go_wp2_with fail
          refine (VarB o14.rep BK0.out (by omega) hvn).mono ?_
          rintro e va ⟨r1, N1, hr, bk1, hr1⟩
          obtain ⟨rfl, La, oa⟩ := o14.step hr
          have z1 : (r1 == -1) = false := bneq_of (by omega)
          have B1 := Lib.hid bk1
          clear hr bk1 o14
          go_wp2_with fail
          refine (RestrictB hn6 oa.rep B1.out (by omega) (.tail _ (.head _)) hvn true).mono ?_
          rintro e vb ⟨r2, N2, hr, bk2, hr2⟩
          obtain ⟨rfl, Lb, ob⟩ := oa.step hr
          have z2 : (r2 == -1) = false := bneq_of (by omega)
          have KF := Lib.hid ob.kp
          clear hr bk2 oa ob
          go_wp2_with fail
          go_ret
          exact ⟨rfl, KF.out⟩
        · have hin2 : ¬ (0 ≤ v ∧ v < (M.n : Int)) := by rw [HMN.out]; exact hin
          by_cases h1 : 0 ≤ v
          · have h2 : ¬ v < (n : Int) := fun h => hin ⟨h1, h⟩
            have h3 : decide (v < (n : Int)) = false := decide_eq_false h2
            clear hin
            go_wp2_with fail
            refine (Var_bad o14.rep hin2 HLB.out).mono ?_
            intro e va hr
            obtain ⟨rfl, La, oa⟩ := o14.step hr
            clear hr o14
            go_wp2_with fail
            refine (Restrict_bad oa.rep (.inr hin2) HLB.out).mono ?_
            intro e vb hr
            obtain ⟨rfl, Lb, ob⟩ := oa.step hr
            have KF := Lib.hid ob.kp
            clear hr oa ob
            go_wp2_with fail
            go_ret
            exact ⟨rfl, KF.out⟩
          · have h2 : v < 0 := by omega
            have h3 : decide (0 ≤ v) = false := decide_eq_false h1
            clear hin
            go_wp2_with fail
            refine (Var_bad o14.rep hin2 HLB.out).mono ?_
            intro e va hr
            obtain ⟨rfl, La, oa⟩ := o14.step hr
            clear hr o14
            go_wp2_with fail
            refine (Restrict_bad oa.rep (.inr hin2) HLB.out).mono ?_
            intro e vb hr
            obtain ⟨rfl, Lb, ob⟩ := oa.step hr
            have KF := Lib.hid ob.kp
            clear hr oa ob
            go_wp2_with fail
            go_ret
            exact ⟨rfl, KF.out⟩
  · have hl : (20 : Int) < l.length := by omega
    go_enter Try.func15, Try.ntmps15
    go_wp2_with fail
    refine (awake_ok w).mono ?_
    rintro e w0 ⟨rfl, k0⟩
    have K0 := Lib.hid k0
    clear k0
    go_wp2_with fail
    go_ret
    exact ⟨rfl, K0.out⟩

end Go.Proofs.Ytifompekiockmaa
