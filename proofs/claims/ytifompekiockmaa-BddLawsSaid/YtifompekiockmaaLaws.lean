/-
  Walks: the law BddLaws.
-/
import Derived.Test.YtifompekiockmaaAgrees
import Derived.Test.YtifompekiockmaaBank
namespace Go.Proofs.Ytifompekiockmaa
open Go.RowKit

theorem beq_of {a b : Int} (h : a = b) : (a == b) = true := by simp [h]

set_option maxRecDepth 100000 in
set_option maxHeartbeats 4000000 in
theorem BddLaws_walk (x : Int) (l : List Stp) {sv : Value} {w : World} (hs : StepsAt w sv l) (i1 i2 i3 : Int) :
    Calls Try.prog 7 #[.int .i64 x, sv, .int .i64 i1, .int .i64 i2, .int .i64 i3] w fun e w' => e = .returned (.bool true) ∧ Kp No w w' := by
  obtain ⟨hn1, hn6⟩ := nv_le x
  have VA := Lib.hid (fun w => Vars_ok x w)
  generalize nv x = n at *
  have NEW := Lib.hid (fun (w0 : World) (k0 : Kp No w w0) => New_own (n := n) (by omega) k0)
  have ST := Lib.hid hs
  obtain ⟨ao, c, rfl, _⟩ := hs
  by_cases h40 : l.length ≤ 40
  · have hl : ¬ (40 : Int) < l.length := by omega
    go_enter Try.func7, Try.ntmps7
    go_wp2_with fail
    refine (awake_ok w).mono ?_
    rintro e w0 ⟨rfl, k0⟩
    have K0 := Lib.hid k0
    clear k0
    go_wp2_with fail
    refine (VA.out w0).mono ?_
    rintro e w0' ⟨rfl, rfl⟩
    go_wp2_with fail
    refine (NEW.out w0 K0.out).mono ?_
    rintro e w1 ⟨p, L1, rfl, s1, k1⟩
    have S1 := Lib.hid s1
    clear s1 k1 NEW
    go_wp2_with fail
    refine (Run_own hn6 hn1 S1.out (by omega) ST.out).mono ?_
    rintro e w2 ⟨fv, tv, L2, tvs, rfl, fr⟩
    obtain ⟨rp, hFl⟩ := run_rp hn1 hn6 l (by omega)
    generalize runM (Mgr.new n) n l = X at *
    generalize runF n l = Fs at *
    obtain ⟨M, fs⟩ := X
    simp only at fr rp
    have hpos := rp.pos
    have hfl : fs.length ≤ 100 := by rw [← fr.flen]; omega
    obtain ⟨gf, cf, gt, ct, rfl, rfl, lf, lt⟩ := fr.forms (by omega)
    have FR := Lib.hid fr
    have RPH := Lib.hid rp
    clear fr rp hFl
    have h1 := pick_lt i1 (n := fs.length) (by omega)
    have h2 := pick_lt i2 (n := fs.length) (by omega)
    have h3 := pick_lt i3 (n := fs.length) (by omega)
    have PQ := Lib.hid (fun (s : Int) (i : Nat) (h : PK fs.length s i) (x : World) => Pick_q h (by omega) (by omega) x)
    have c1 := FR.out.cellF h1
    have c2 := FR.out.cellF h2
    have c3 := FR.out.cellF h3
    have bk0 := (Bk.of_rp RPH.out).sub (B' := [(fs.getD (pick i1 fs.length) 0, Fs.getD (pick i1 fs.length) (fun _ => false)), (fs.getD (pick i2 fs.length) 0, Fs.getD (pick i2 fs.length) (fun _ => false)), (fs.getD (pick i3 fs.length) 0, Fs.getD (pick i3 fs.length) (fun _ => false))]) (fun x hx => by
      have e := FR.out.flen
      simp only [List.mem_cons, List.not_mem_nil, or_false] at hx
      rcases hx with rfl | rfl | rfl
      · exact mem_zip h1 e
      · exact mem_zip h2 e
      · exact mem_zip h3 e)
    have BK0 := Lib.hid bk0.consts
    clear bk0
    generalize fs.getD (pick i1 fs.length) 0 = f at *
    generalize fs.getD (pick i2 fs.length) 0 = g at *
    generalize fs.getD (pick i3 fs.length) 0 = h at *
    generalize Fs.getD (pick i1 fs.length) (fun _ => false) = F at *
    generalize Fs.getD (pick i2 fs.length) (fun _ => false) = G at *
    generalize Fs.getD (pick i3 fs.length) (fun _ => false) = H at *
    generalize hk1 : pick i1 fs.length = ia at *
    generalize hk2 : pick i2 fs.length = ib at *
    generalize hk3 : pick i3 fs.length = ic at *
    replace hk1 : PK fs.length i1 ia := hk1
    replace hk2 : PK fs.length i2 ib := hk2
    replace hk3 : PK fs.length i3 ic := hk3
    have lai : (ia : Int) < fs.length := by omega
    have lbi : (ib : Int) < fs.length := by omega
    have lci : (ic : Int) < fs.length := by omega
    go_wp2_with fail
    go_quiet ((go_at_call 17; exact Calls.quiet_of_same (PQ.out _ _ (by assumption) _)))
    have o0 := FR.out.own.no (Kp.drewN nq)
    clear c1 c2 c3
    generalize w2.drewN nq = v0 at *
    clear FR RPH PQ hk1 hk2 hk3 lai lbi lci h1 h2 h3 hpos hfl lf lt S1 ST VA K0
    have b0 := BK0
    clear BK0
    go_wp2_with fail
    refine (AndB hn6 o0.rep b0.out (by omega) (f := f) (g := g) (by repeat (first | exact List.Mem.head _ | apply List.Mem.tail)) (by repeat (first | exact List.Mem.head _ | apply List.Mem.tail))).mono ?_
    rintro e v1 ⟨r1, M1, hr, bk, _⟩
    obtain ⟨rfl, L_1, o1⟩ := o0.step hr
    have b1 := Lib.hid bk
    clear hr bk o0 b0
    go_wp2_with fail
    refine (NotB hn6 o1.rep b1.out (by omega) (f := r1) (by repeat (first | exact List.Mem.head _ | apply List.Mem.tail))).mono ?_
    rintro e v2 ⟨r2, M2, hr, bk, _⟩
    obtain ⟨rfl, L_2, o2⟩ := o1.step hr
    have b2 := Lib.hid bk
    clear hr bk o1 b1
    go_wp2_with fail
    refine (NotB hn6 o2.rep b2.out (by omega) (f := f) (by repeat (first | exact List.Mem.head _ | apply List.Mem.tail))).mono ?_
    rintro e v3 ⟨r3, M3, hr, bk, _⟩
    obtain ⟨rfl, L_3, o3⟩ := o2.step hr
    have b3 := Lib.hid bk
    clear hr bk o2 b2
    go_wp2_with fail
    refine (NotB hn6 o3.rep b3.out (by omega) (f := g) (by repeat (first | exact List.Mem.head _ | apply List.Mem.tail))).mono ?_
    rintro e v4 ⟨r4, M4, hr, bk, _⟩
    obtain ⟨rfl, L_4, o4⟩ := o3.step hr
    have b4 := Lib.hid bk
    clear hr bk o3 b3
    go_wp2_with fail
    refine (OrB hn6 o4.rep b4.out (by omega) (f := r3) (g := r4) (by repeat (first | exact List.Mem.head _ | apply List.Mem.tail)) (by repeat (first | exact List.Mem.head _ | apply List.Mem.tail))).mono ?_
    rintro e v5 ⟨r5, M5, hr, bk, _⟩
    obtain ⟨rfl, L_5, o5⟩ := o4.step hr
    have b5 := Lib.hid bk
    clear hr bk o4 b4
    have q0 := Lib.hid (b5.out.eq (f := r2) (g := r5) (by repeat (first | exact List.Mem.head _ | apply List.Mem.tail)) (by repeat (first | exact List.Mem.head _ | apply List.Mem.tail)) (fun a => by generalize F a = xf; generalize G a = xg; generalize H a = xh; revert xf xg xh; decide))
    have z0 := beq_of q0.out
    clear q0
    go_wp2_with fail
    refine (OrB hn6 o5.rep b5.out (by omega) (f := g) (g := h) (by repeat (first | exact List.Mem.head _ | apply List.Mem.tail)) (by repeat (first | exact List.Mem.head _ | apply List.Mem.tail))).mono ?_
    rintro e v6 ⟨r6, M6, hr, bk, _⟩
    obtain ⟨rfl, L_6, o6⟩ := o5.step hr
    have b6 := Lib.hid bk
    clear hr bk o5 b5
    go_wp2_with fail
    refine (AndB hn6 o6.rep b6.out (by omega) (f := f) (g := r6) (by repeat (first | exact List.Mem.head _ | apply List.Mem.tail)) (by repeat (first | exact List.Mem.head _ | apply List.Mem.tail))).mono ?_
    rintro e v7 ⟨r7, M7, hr, bk, _⟩
    obtain ⟨rfl, L_7, o7⟩ := o6.step hr
    have b7 := Lib.hid bk
    clear hr bk o6 b6
    go_wp2_with fail
    refine (AndB hn6 o7.rep b7.out (by omega) (f := f) (g := g) (by repeat (first | exact List.Mem.head _ | apply List.Mem.tail)) (by repeat (first | exact List.Mem.head _ | apply List.Mem.tail))).mono ?_
    rintro e v8 ⟨r8, M8, hr, bk, _⟩
    obtain ⟨rfl, L_8, o8⟩ := o7.step hr
    have b8 := Lib.hid bk
    clear hr bk o7 b7
    go_wp2_with fail
    refine (AndB hn6 o8.rep b8.out (by omega) (f := f) (g := h) (by repeat (first | exact List.Mem.head _ | apply List.Mem.tail)) (by repeat (first | exact List.Mem.head _ | apply List.Mem.tail))).mono ?_
    rintro e v9 ⟨r9, M9, hr, bk, _⟩
    obtain ⟨rfl, L_9, o9⟩ := o8.step hr
    have b9 := Lib.hid bk
    clear hr bk o8 b8
    go_wp2_with fail
    refine (OrB hn6 o9.rep b9.out (by omega) (f := r8) (g := r9) (by repeat (first | exact List.Mem.head _ | apply List.Mem.tail)) (by repeat (first | exact List.Mem.head _ | apply List.Mem.tail))).mono ?_
    rintro e v10 ⟨r10, M10, hr, bk, _⟩
    obtain ⟨rfl, L_10, o10⟩ := o9.step hr
    have b10 := Lib.hid bk
    clear hr bk o9 b9
    have q1 := Lib.hid (b10.out.eq (f := r7) (g := r10) (by repeat (first | exact List.Mem.head _ | apply List.Mem.tail)) (by repeat (first | exact List.Mem.head _ | apply List.Mem.tail)) (fun a => by generalize F a = xf; generalize G a = xg; generalize H a = xh; revert xf xg xh; decide))
    have z1 := beq_of q1.out
    clear q1
    go_wp2_with fail
    refine (XorB hn6 o10.rep b10.out (by omega) (f := g) (g := h) (by repeat (first | exact List.Mem.head _ | apply List.Mem.tail)) (by repeat (first | exact List.Mem.head _ | apply List.Mem.tail))).mono ?_
    rintro e v11 ⟨r11, M11, hr, bk, _⟩
    obtain ⟨rfl, L_11, o11⟩ := o10.step hr
    have b11 := Lib.hid bk
    clear hr bk o10 b10
    go_wp2_with fail
    refine (AndB hn6 o11.rep b11.out (by omega) (f := f) (g := r11) (by repeat (first | exact List.Mem.head _ | apply List.Mem.tail)) (by repeat (first | exact List.Mem.head _ | apply List.Mem.tail))).mono ?_
    rintro e v12 ⟨r12, M12, hr, bk, _⟩
    obtain ⟨rfl, L_12, o12⟩ := o11.step hr
    have b12 := Lib.hid bk
    clear hr bk o11 b11
    go_wp2_with fail
    refine (AndB hn6 o12.rep b12.out (by omega) (f := f) (g := g) (by repeat (first | exact List.Mem.head _ | apply List.Mem.tail)) (by repeat (first | exact List.Mem.head _ | apply List.Mem.tail))).mono ?_
    rintro e v13 ⟨r13, M13, hr, bk, _⟩
    obtain ⟨rfl, L_13, o13⟩ := o12.step hr
    have b13 := Lib.hid bk
    clear hr bk o12 b12
    go_wp2_with fail
    refine (AndB hn6 o13.rep b13.out (by omega) (f := f) (g := h) (by repeat (first | exact List.Mem.head _ | apply List.Mem.tail)) (by repeat (first | exact List.Mem.head _ | apply List.Mem.tail))).mono ?_
    rintro e v14 ⟨r14, M14, hr, bk, _⟩
    obtain ⟨rfl, L_14, o14⟩ := o13.step hr
    have b14 := Lib.hid bk
    clear hr bk o13 b13
    go_wp2_with fail
    refine (XorB hn6 o14.rep b14.out (by omega) (f := r13) (g := r14) (by repeat (first | exact List.Mem.head _ | apply List.Mem.tail)) (by repeat (first | exact List.Mem.head _ | apply List.Mem.tail))).mono ?_
    rintro e v15 ⟨r15, M15, hr, bk, _⟩
    obtain ⟨rfl, L_15, o15⟩ := o14.step hr
    have b15 := Lib.hid bk
    clear hr bk o14 b14
    have q2 := Lib.hid (b15.out.eq (f := r12) (g := r15) (by repeat (first | exact List.Mem.head _ | apply List.Mem.tail)) (by repeat (first | exact List.Mem.head _ | apply List.Mem.tail)) (fun a => by generalize F a = xf; generalize G a = xg; generalize H a = xh; revert xf xg xh; decide))
    have z2 := beq_of q2.out
    clear q2
    go_wp2_with fail
    refine (AndB hn6 o15.rep b15.out (by omega) (f := f) (g := g) (by repeat (first | exact List.Mem.head _ | apply List.Mem.tail)) (by repeat (first | exact List.Mem.head _ | apply List.Mem.tail))).mono ?_
    rintro e v16 ⟨r16, M16, hr, bk, _⟩
    obtain ⟨rfl, L_16, o16⟩ := o15.step hr
    have b16 := Lib.hid bk
    clear hr bk o15 b15
    go_wp2_with fail
    refine (OrB hn6 o16.rep b16.out (by omega) (f := f) (g := r16) (by repeat (first | exact List.Mem.head _ | apply List.Mem.tail)) (by repeat (first | exact List.Mem.head _ | apply List.Mem.tail))).mono ?_
    rintro e v17 ⟨r17, M17, hr, bk, _⟩
    obtain ⟨rfl, L_17, o17⟩ := o16.step hr
    have b17 := Lib.hid bk
    clear hr bk o16 b16
    have q3 := Lib.hid (b17.out.eq (f := r17) (g := f) (by repeat (first | exact List.Mem.head _ | apply List.Mem.tail)) (by repeat (first | exact List.Mem.head _ | apply List.Mem.tail)) (fun a => by generalize F a = xf; generalize G a = xg; generalize H a = xh; revert xf xg xh; decide))
    have z3 := beq_of q3.out
    clear q3
    go_wp2_with fail
    refine (OrB hn6 o17.rep b17.out (by omega) (f := f) (g := g) (by repeat (first | exact List.Mem.head _ | apply List.Mem.tail)) (by repeat (first | exact List.Mem.head _ | apply List.Mem.tail))).mono ?_
    rintro e v18 ⟨r18, M18, hr, bk, _⟩
    obtain ⟨rfl, L_18, o18⟩ := o17.step hr
    have b18 := Lib.hid bk
    clear hr bk o17 b17
    go_wp2_with fail
    refine (AndB hn6 o18.rep b18.out (by omega) (f := f) (g := r18) (by repeat (first | exact List.Mem.head _ | apply List.Mem.tail)) (by repeat (first | exact List.Mem.head _ | apply List.Mem.tail))).mono ?_
    rintro e v19 ⟨r19, M19, hr, bk, _⟩
    obtain ⟨rfl, L_19, o19⟩ := o18.step hr
    have b19 := Lib.hid bk
    clear hr bk o18 b18
    have q4 := Lib.hid (b19.out.eq (f := r19) (g := f) (by repeat (first | exact List.Mem.head _ | apply List.Mem.tail)) (by repeat (first | exact List.Mem.head _ | apply List.Mem.tail)) (fun a => by generalize F a = xf; generalize G a = xg; generalize H a = xh; revert xf xg xh; decide))
    have z4 := beq_of q4.out
    clear q4
    go_wp2_with fail
    refine (IteB hn6 o19.rep b19.out (by omega) (f := f) (g := g) (h := h) (by repeat (first | exact List.Mem.head _ | apply List.Mem.tail)) (by repeat (first | exact List.Mem.head _ | apply List.Mem.tail)) (by repeat (first | exact List.Mem.head _ | apply List.Mem.tail))).mono ?_
    rintro e v20 ⟨r20, M20, hr, bk, _⟩
    obtain ⟨rfl, L_20, o20⟩ := o19.step hr
    have b20 := Lib.hid bk
    clear hr bk o19 b19
    go_wp2_with fail
    refine (AndB hn6 o20.rep b20.out (by omega) (f := f) (g := g) (by repeat (first | exact List.Mem.head _ | apply List.Mem.tail)) (by repeat (first | exact List.Mem.head _ | apply List.Mem.tail))).mono ?_
    rintro e v21 ⟨r21, M21, hr, bk, _⟩
    obtain ⟨rfl, L_21, o21⟩ := o20.step hr
    have b21 := Lib.hid bk
    clear hr bk o20 b20
    go_wp2_with fail
    refine (NotB hn6 o21.rep b21.out (by omega) (f := f) (by repeat (first | exact List.Mem.head _ | apply List.Mem.tail))).mono ?_
    rintro e v22 ⟨r22, M22, hr, bk, _⟩
    obtain ⟨rfl, L_22, o22⟩ := o21.step hr
    have b22 := Lib.hid bk
    clear hr bk o21 b21
    go_wp2_with fail
    refine (AndB hn6 o22.rep b22.out (by omega) (f := r22) (g := h) (by repeat (first | exact List.Mem.head _ | apply List.Mem.tail)) (by repeat (first | exact List.Mem.head _ | apply List.Mem.tail))).mono ?_
    rintro e v23 ⟨r23, M23, hr, bk, _⟩
    obtain ⟨rfl, L_23, o23⟩ := o22.step hr
    have b23 := Lib.hid bk
    clear hr bk o22 b22
    go_wp2_with fail
    refine (OrB hn6 o23.rep b23.out (by omega) (f := r21) (g := r23) (by repeat (first | exact List.Mem.head _ | apply List.Mem.tail)) (by repeat (first | exact List.Mem.head _ | apply List.Mem.tail))).mono ?_
    rintro e v24 ⟨r24, M24, hr, bk, _⟩
    obtain ⟨rfl, L_24, o24⟩ := o23.step hr
    have b24 := Lib.hid bk
    clear hr bk o23 b23
    have q5 := Lib.hid (b24.out.eq (f := r20) (g := r24) (by repeat (first | exact List.Mem.head _ | apply List.Mem.tail)) (by repeat (first | exact List.Mem.head _ | apply List.Mem.tail)) (fun a => by generalize F a = xf; generalize G a = xg; generalize H a = xh; revert xf xg xh; decide))
    have z5 := beq_of q5.out
    clear q5
    go_wp2_with fail
    refine (IteB hn6 o24.rep b24.out (by omega) (f := f) (g := 1) (h := 0) (by repeat (first | exact List.Mem.head _ | apply List.Mem.tail)) (by repeat (first | exact List.Mem.head _ | apply List.Mem.tail)) (by repeat (first | exact List.Mem.head _ | apply List.Mem.tail))).mono ?_
    rintro e v25 ⟨r25, M25, hr, bk, _⟩
    obtain ⟨rfl, L_25, o25⟩ := o24.step hr
    have b25 := Lib.hid bk
    clear hr bk o24 b24
    have q6 := Lib.hid (b25.out.eq (f := r25) (g := f) (by repeat (first | exact List.Mem.head _ | apply List.Mem.tail)) (by repeat (first | exact List.Mem.head _ | apply List.Mem.tail)) (fun a => by generalize F a = xf; generalize G a = xg; generalize H a = xh; revert xf xg xh; decide))
    have z6 := beq_of q6.out
    clear q6
    go_wp2_with fail
    refine (IteB hn6 o25.rep b25.out (by omega) (f := f) (g := g) (h := g) (by repeat (first | exact List.Mem.head _ | apply List.Mem.tail)) (by repeat (first | exact List.Mem.head _ | apply List.Mem.tail)) (by repeat (first | exact List.Mem.head _ | apply List.Mem.tail))).mono ?_
    rintro e v26 ⟨r26, M26, hr, bk, _⟩
    obtain ⟨rfl, L_26, o26⟩ := o25.step hr
    have b26 := Lib.hid bk
    clear hr bk o25 b25
    have q7 := Lib.hid (b26.out.eq (f := r26) (g := g) (by repeat (first | exact List.Mem.head _ | apply List.Mem.tail)) (by repeat (first | exact List.Mem.head _ | apply List.Mem.tail)) (fun a => by generalize F a = xf; generalize G a = xg; generalize H a = xh; revert xf xg xh; decide))
    have z7 := beq_of q7.out
    clear q7
    go_wp2_with fail
    refine (XorB hn6 o26.rep b26.out (by omega) (f := f) (g := f) (by repeat (first | exact List.Mem.head _ | apply List.Mem.tail)) (by repeat (first | exact List.Mem.head _ | apply List.Mem.tail))).mono ?_
    rintro e v27 ⟨r27, M27, hr, bk, _⟩
    obtain ⟨rfl, L_27, o27⟩ := o26.step hr
    have b27 := Lib.hid bk
    clear hr bk o26 b26
    have q8 := Lib.hid (b27.out.eq (f := r27) (g := 0) (by repeat (first | exact List.Mem.head _ | apply List.Mem.tail)) (by repeat (first | exact List.Mem.head _ | apply List.Mem.tail)) (fun a => by generalize F a = xf; generalize G a = xg; generalize H a = xh; revert xf xg xh; decide))
    have z8 := beq_of q8.out
    clear q8
    go_wp2_with fail
    refine (NotB hn6 o27.rep b27.out (by omega) (f := f) (by repeat (first | exact List.Mem.head _ | apply List.Mem.tail))).mono ?_
    rintro e v28 ⟨r28, M28, hr, bk, _⟩
    obtain ⟨rfl, L_28, o28⟩ := o27.step hr
    have b28 := Lib.hid bk
    clear hr bk o27 b27
    go_wp2_with fail
    refine (XorB hn6 o28.rep b28.out (by omega) (f := f) (g := r28) (by repeat (first | exact List.Mem.head _ | apply List.Mem.tail)) (by repeat (first | exact List.Mem.head _ | apply List.Mem.tail))).mono ?_
    rintro e v29 ⟨r29, M29, hr, bk, _⟩
    obtain ⟨rfl, L_29, o29⟩ := o28.step hr
    have b29 := Lib.hid bk
    clear hr bk o28 b28
    have q9 := Lib.hid (b29.out.eq (f := r29) (g := 1) (by repeat (first | exact List.Mem.head _ | apply List.Mem.tail)) (by repeat (first | exact List.Mem.head _ | apply List.Mem.tail)) (fun a => by generalize F a = xf; generalize G a = xg; generalize H a = xh; revert xf xg xh; decide))
    have z9 := beq_of q9.out
    clear q9
    go_wp2_with fail
    refine (XorB hn6 o29.rep b29.out (by omega) (f := f) (g := g) (by repeat (first | exact List.Mem.head _ | apply List.Mem.tail)) (by repeat (first | exact List.Mem.head _ | apply List.Mem.tail))).mono ?_
    rintro e v30 ⟨r30, M30, hr, bk, _⟩
    obtain ⟨rfl, L_30, o30⟩ := o29.step hr
    have b30 := Lib.hid bk
    clear hr bk o29 b29
    go_wp2_with fail
    refine (XorB hn6 o30.rep b30.out (by omega) (f := r30) (g := g) (by repeat (first | exact List.Mem.head _ | apply List.Mem.tail)) (by repeat (first | exact List.Mem.head _ | apply List.Mem.tail))).mono ?_
    rintro e v31 ⟨r31, M31, hr, bk, _⟩
    obtain ⟨rfl, L_31, o31⟩ := o30.step hr
    have b31 := Lib.hid bk
    clear hr bk o30 b30
    have q10 := Lib.hid (b31.out.eq (f := r31) (g := f) (by repeat (first | exact List.Mem.head _ | apply List.Mem.tail)) (by repeat (first | exact List.Mem.head _ | apply List.Mem.tail)) (fun a => by generalize F a = xf; generalize G a = xg; generalize H a = xh; revert xf xg xh; decide))
    have z10 := beq_of q10.out
    clear q10
    go_wp2_with fail
    refine (AndB hn6 o31.rep b31.out (by omega) (f := f) (g := g) (by repeat (first | exact List.Mem.head _ | apply List.Mem.tail)) (by repeat (first | exact List.Mem.head _ | apply List.Mem.tail))).mono ?_
    rintro e v32 ⟨r32, M32, hr, bk, _⟩
    obtain ⟨rfl, L_32, o32⟩ := o31.step hr
    have b32 := Lib.hid bk
    clear hr bk o31 b31
    go_wp2_with fail
    refine (AndB hn6 o32.rep b32.out (by omega) (f := r32) (g := h) (by repeat (first | exact List.Mem.head _ | apply List.Mem.tail)) (by repeat (first | exact List.Mem.head _ | apply List.Mem.tail))).mono ?_
    rintro e v33 ⟨r33, M33, hr, bk, _⟩
    obtain ⟨rfl, L_33, o33⟩ := o32.step hr
    have b33 := Lib.hid bk
    clear hr bk o32 b32
    go_wp2_with fail
    refine (AndB hn6 o33.rep b33.out (by omega) (f := g) (g := h) (by repeat (first | exact List.Mem.head _ | apply List.Mem.tail)) (by repeat (first | exact List.Mem.head _ | apply List.Mem.tail))).mono ?_
    rintro e v34 ⟨r34, M34, hr, bk, _⟩
    obtain ⟨rfl, L_34, o34⟩ := o33.step hr
    have b34 := Lib.hid bk
    clear hr bk o33 b33
    go_wp2_with fail
    refine (AndB hn6 o34.rep b34.out (by omega) (f := f) (g := r34) (by repeat (first | exact List.Mem.head _ | apply List.Mem.tail)) (by repeat (first | exact List.Mem.head _ | apply List.Mem.tail))).mono ?_
    rintro e v35 ⟨r35, M35, hr, bk, _⟩
    obtain ⟨rfl, L_35, o35⟩ := o34.step hr
    have b35 := Lib.hid bk
    clear hr bk o34 b34
    have q11 := Lib.hid (b35.out.eq (f := r33) (g := r35) (by repeat (first | exact List.Mem.head _ | apply List.Mem.tail)) (by repeat (first | exact List.Mem.head _ | apply List.Mem.tail)) (fun a => by generalize F a = xf; generalize G a = xg; generalize H a = xh; revert xf xg xh; decide))
    have z11 := beq_of q11.out
    clear q11
    go_wp2_with fail
    refine (OrB hn6 o35.rep b35.out (by omega) (f := f) (g := g) (by repeat (first | exact List.Mem.head _ | apply List.Mem.tail)) (by repeat (first | exact List.Mem.head _ | apply List.Mem.tail))).mono ?_
    rintro e v36 ⟨r36, M36, hr, bk, _⟩
    obtain ⟨rfl, L_36, o36⟩ := o35.step hr
    have b36 := Lib.hid bk
    clear hr bk o35 b35
    go_wp2_with fail
    refine (OrB hn6 o36.rep b36.out (by omega) (f := g) (g := f) (by repeat (first | exact List.Mem.head _ | apply List.Mem.tail)) (by repeat (first | exact List.Mem.head _ | apply List.Mem.tail))).mono ?_
    rintro e v37 ⟨r37, M37, hr, bk, _⟩
    obtain ⟨rfl, L_37, o37⟩ := o36.step hr
    have b37 := Lib.hid bk
    clear hr bk o36 b36
    have q12 := Lib.hid (b37.out.eq (f := r36) (g := r37) (by repeat (first | exact List.Mem.head _ | apply List.Mem.tail)) (by repeat (first | exact List.Mem.head _ | apply List.Mem.tail)) (fun a => by generalize F a = xf; generalize G a = xg; generalize H a = xh; revert xf xg xh; decide))
    have z12 := beq_of q12.out
    clear q12
    go_wp2_with fail
    refine (XorB hn6 o37.rep b37.out (by omega) (f := f) (g := g) (by repeat (first | exact List.Mem.head _ | apply List.Mem.tail)) (by repeat (first | exact List.Mem.head _ | apply List.Mem.tail))).mono ?_
    rintro e v38 ⟨r38, M38, hr, bk, _⟩
    obtain ⟨rfl, L_38, o38⟩ := o37.step hr
    have b38 := Lib.hid bk
    clear hr bk o37 b37
    go_wp2_with fail
    refine (XorB hn6 o38.rep b38.out (by omega) (f := r38) (g := h) (by repeat (first | exact List.Mem.head _ | apply List.Mem.tail)) (by repeat (first | exact List.Mem.head _ | apply List.Mem.tail))).mono ?_
    rintro e v39 ⟨r39, M39, hr, bk, _⟩
    obtain ⟨rfl, L_39, o39⟩ := o38.step hr
    have b39 := Lib.hid bk
    clear hr bk o38 b38
    go_wp2_with fail
    refine (XorB hn6 o39.rep b39.out (by omega) (f := g) (g := h) (by repeat (first | exact List.Mem.head _ | apply List.Mem.tail)) (by repeat (first | exact List.Mem.head _ | apply List.Mem.tail))).mono ?_
    rintro e v40 ⟨r40, M40, hr, bk, _⟩
    obtain ⟨rfl, L_40, o40⟩ := o39.step hr
    have b40 := Lib.hid bk
    clear hr bk o39 b39
    go_wp2_with fail
    refine (XorB hn6 o40.rep b40.out (by omega) (f := f) (g := r40) (by repeat (first | exact List.Mem.head _ | apply List.Mem.tail)) (by repeat (first | exact List.Mem.head _ | apply List.Mem.tail))).mono ?_
    rintro e v41 ⟨r41, M41, hr, bk, _⟩
    obtain ⟨rfl, L_41, o41⟩ := o40.step hr
    have b41 := Lib.hid bk
    clear hr bk o40 b40
    have q13 := Lib.hid (b41.out.eq (f := r39) (g := r41) (by repeat (first | exact List.Mem.head _ | apply List.Mem.tail)) (by repeat (first | exact List.Mem.head _ | apply List.Mem.tail)) (fun a => by generalize F a = xf; generalize G a = xg; generalize H a = xh; revert xf xg xh; decide))
    have z13 := beq_of q13.out
    clear q13
    have kf := Lib.hid o41.kp
    go_wp2_with fail
    go_ret
    exact ⟨rfl, kf.out⟩
  · have hl : (40 : Int) < l.length := by omega
    go_enter Try.func7, Try.ntmps7
    go_wp2_with fail
    refine (awake_ok w).mono ?_
    rintro e w0 ⟨rfl, k0⟩
    have K0 := Lib.hid k0
    clear k0
    go_wp2_with fail
    go_ret
    exact ⟨rfl, K0.out⟩

end Go.Proofs.Ytifompekiockmaa
