/-
  Walks: the law BddCubes.
-/
import Derived.Test.YtifompekiockmaaCubes
import Derived.Deep.CutBlock
namespace Go.Proofs.Ytifompekiockmaa
open Go.RowKit

theorem made_zero (n : Nat) : (madeCells (Value.int .i64 0).cells (n * 1)).toList = List.replicate n (.int .i64 0) := by
  apply List.ext_getElem?
  intro j
  simp only [madeCells, Nat.mul_one, Array.getElem?_toList, List.getElem?_replicate]
  by_cases hj : j < n
  · simp [hj, Value.cells, Nat.mod_one]
  · simp [hj]

set_option maxRecDepth 100000 in
set_option maxHeartbeats 8000000 in
theorem Cubes_rest {n : Nat} {M : Mgr} {f : Int} {ls : List Int} {la : List Bool} (h0 : 0 < n) (hl : ls.length ≤ 100) (cu : CuP n ls.length M f (litsK n ls ls.length)) :
    M.evalM f la = cubeF (litsK n ls ls.length) (asg la) ∧ (cntL (ls.map (litOf n)) ls.length < 0 → f = 0) ∧ (¬ cntL (ls.map (litOf n)) ls.length < 0 → (M.sizeM f : Int) = cntL (ls.map (litOf n)) ls.length ∧ ((M.supM f).length : Int) = cntL (ls.map (litOf n)) ls.length) := by
  have spec := cnt_spec (ls.map (litOf n)) ls.length (by simp)
  rw [← litsK_all n ls ls.length] at spec
  obtain ⟨_, s2, s3⟩ := spec
  have hv : ∀ x ∈ litsK n ls ls.length, x.1 < M.n := fun x hx => by
    unfold litsK at hx
    obtain ⟨y, _, rfl⟩ := List.mem_map.1 hx
    rw [cu.nn]; exact litOf_lt h0 y
  obtain ⟨k, hk, sk, _⟩ := Mgr.valid_nat cu.wf cu.ok
  refine ⟨?_, fun hneg => ?_, fun hpos => ?_⟩
  · unfold Mgr.evalM; rw [if_pos cu.ok, cu.sem]
  · have hnc : ¬ Consis (litsK n ls ls.length) := fun hc => by have := s2 hc; omega
    refine Mgr.valid_canon cu.wf cu.ok (Mgr.valid_zero cu.wf) (fun a => ?_)
    rw [cu.sem, cube_false hnc]
    exact (Mgr.sem_zero M a).symm
  · have hc : Consis (litsK n ls ls.length) := by
      apply Classical.byContradiction
      intro hnc
      have := s3 hnc
      omega
    have e1 := cube_supp cu.wf (f := f.toNat) (by rw [hk, Int.toNat_natCast]; exact sk) cu.sem hv hc
    have e2 := Mgr.size_supp cu.wf (f := f.toNat) (by rw [hk, Int.toNat_natCast]; exact sk) (by
      intro d a a' h1 h2 b
      have e : M.sem f.toNat = cubeF (litsK n ls ls.length) := funext cu.sem
      rw [e] at h1 h2 ⊢
      exact cube_one M _ d a a' h1 h2 b)
    have e3 : M.supM f = M.supp f.toNat := if_pos cu.ok
    have e4 : M.sizeM f = M.size f.toNat := if_pos cu.ok
    rw [s2 hc, e3, e4, e2, e1]
    exact ⟨rfl, rfl⟩

set_option maxRecDepth 100000 in
set_option maxHeartbeats 8000000 in
theorem BddCubes_walk (vars : Int) (ls : List Int) (la : List Bool) {lv av : Value} {w : World} (hls : IntsAt w lv ls) (hla : Bools w av la) :
    Calls Try.prog 5 #[.int .i64 vars, lv, av] w fun e w' => e = .returned (.bool true) ∧ Kp No w w' := by
  obtain ⟨i0, hi0, hz0, hz1, hz2⟩ := info_parts info_int
  have HL := Lib.hid hls
  have HA := Lib.hid hla
  obtain ⟨al, cl, rfl, hlm, _⟩ := hls
  obtain ⟨aa, ca, rfl, ham, _⟩ := hla
  have hm := maxLen_val
  have hlm2 : (ls.length : Int) ≤ 9223372036854775807 := by omega
  have ham2 : (la.length : Int) ≤ 9223372036854775807 := by omega
  clear hm hlm ham
  by_cases h1 : ls.length ≤ 100
  rotate_left
  · have hl : (100 : Int) < ls.length := by omega
    go_enter Try.func5, Try.ntmps5
    go_wp2_with fail
    refine (awake_ok w).mono ?_
    rintro e w0 ⟨rfl, k0⟩
    have K0 := Lib.hid k0
    clear k0
    go_wp2_with fail
    go_ret
    exact ⟨rfl, K0.out⟩
  have hl : ¬ (100 : Int) < ls.length := by omega
  have hld : decide ((100 : Int) < ls.length) = false := decide_eq_false hl
  by_cases h2 : la.length ≤ 300
  rotate_left
  · have hl2 : (300 : Int) < la.length := by omega
    go_enter Try.func5, Try.ntmps5
    go_wp2_with fail
    refine (awake_ok w).mono ?_
    rintro e w0 ⟨rfl, k0⟩
    have K0 := Lib.hid k0
    clear k0
    go_wp2_with fail
    go_ret
    exact ⟨rfl, K0.out⟩
  have hl2 : ¬ (300 : Int) < la.length := by omega
  have hld2 : decide ((300 : Int) < la.length) = false := decide_eq_false hl2
  have NEW := Lib.hid (fun w => New_ok vars w)
  obtain ⟨n, hnv, hn2⟩ : ∃ n : Nat, n = nvars vars ∧ n ≤ 256 := ⟨_, rfl, by unfold nvars; split; omega; split <;> omega⟩
  rw [← hnv] at NEW
  have HNV := Lib.hid hnv
  clear hnv
  go_enter Try.func5, Try.ntmps5
  go_wp2_with fail
  refine (awake_ok w).mono ?_
  rintro e w0 ⟨rfl, k0⟩
  have K0 := Lib.hid k0
  clear k0
  go_wp2_with fail
  refine (NEW.out w0).mono ?_
  rintro e w1 ⟨p, L1, rfl, R1, k1, o1⟩
  have S1 : Hid (Own w p w1 (Mgr.new n) L1) := ⟨R1, K0.out.trans_no k1, fun x hx => Nat.le_trans K0.out.size (o1 x hx)⟩
  clear R1 k1 o1 NEW
  go_upto_region 6 with fail
  go_cut [8] (fun s x => s = .int .i64 (n : Int) ∧ x = w1)
  case first =>
    by_cases h0 : vars < 0
    · have E : Hid (n = 0) := Lib.hid (by rw [HNV.out]; unfold nvars; rw [if_pos h0])
      have h0' : (0 : Int) > vars := h0
      go_wp2
      go_meet
      case rel => exact ⟨by rw [E.out]; rfl, rfl⟩
    · by_cases h1 : 256 < vars
      · have E : Hid (n = 256) := Lib.hid (by rw [HNV.out]; unfold nvars; rw [if_neg h0, if_pos h1])
        have h2 : ¬ vars < 0 := h0
        go_wp2
        go_meet
        case rel => exact ⟨by rw [E.out]; rfl, rfl⟩
      · have E : Hid ((n : Int) = vars) := Lib.hid (by rw [HNV.out]; unfold nvars; rw [if_neg h0, if_neg h1]; omega)
        go_wp2
        go_meet
        case rel => exact ⟨by rw [E.out], rfl⟩
  case rest =>
  obtain ⟨hs, hw⟩ := hcut
  replace hw := hw.symm
  subst hs hw
  go_wp2_with fail
  refine (vars_ok S1.out.rep).mono ?_
  rintro e w1' ⟨rfl, rfl⟩
  rw [Mgr.new_n]
  unfold natV
  by_cases hn0 : n = 0
  · subst hn0
    have OC := Lib.hid (Order_ok S1.out.rep (by rw [Mgr.new_n]; omega))
    have VB := Lib.hid (Var_ok (0 : Int) S1.out.rep (by rw [show (Mgr.new 0).varM 0 = (Mgr.new 0, -1) from if_neg (by rw [Mgr.new_n]; omega)]; simp [Mgr.new, big]))
    rw [show (Mgr.new 0).varM 0 = (Mgr.new 0, -1) from if_neg (by rw [Mgr.new_n]; omega)] at VB
    go_wp2_with fail
    refine VB.out.mono ?_
    intro e v1 hr
    obtain ⟨rfl, L2, s2⟩ := S1.out.step hr
    clear hr
    have OC2 := Lib.hid (Order_ok s2.rep (by rw [Mgr.new_n]; omega))
    have S2 := Lib.hid s2
    clear s2
    go_wp2_with fail
    refine OC2.out.mono ?_
    rintro e v2 ⟨ov, rfl, h1, k2⟩
    have ho : (Mgr.new 0).order = [] := rfl
    rw [ho] at h1
    obtain ⟨a2, c2, rfl, _⟩ := ownsRow_len (row_zero h1)
    have K2 := Lib.hid (S2.out.kp.trans_no k2)
    clear h1 k2 ho
    simp only [List.length_nil]
    go_wp2_with fail
    go_ret
    exact ⟨rfl, K2.out⟩
  have hn0' : ((n : Int) == 0) = false := by simp; omega
  obtain ⟨w2, hmk, r1, r2⟩ := run_make_full (P := Try.prog) w1 w1.heap.size 45 3 i0 _ 1 Try.underlying45 hi0 hz0 hz1 .i64 .i64 n (by rw [hz2]; omega) (by rw [maxLen_val]; omega) (Nat.le_refl _)
  rw [made_zero, ← vrow_nil n] at r1
  have K2 : Kp No w1 w2 := (Kp.grown r2).mono (fun k _ e => by cases e)
  have s2 := S1.out.no K2
  have hmz := S1.out.kp.size
  have J0 : Hid (CuR w p n ls la w1.heap.size ls.length (.int .i64 1) (.int .i64 0) (.bool true) (.int .i64 0) w2) := Lib.hid
    ⟨0, Mgr.new n, L1, 1, by omega, rfl, rfl, rfl, rfl, ⟨s2, ⟨Mgr.new_wf n, Mgr.new_n n, by simp [Mgr.new], Mgr.valid_one (Mgr.new_wf n), fun a => Mgr.sem_one _ a⟩, ⟨r1.1, by
      rcases r1.2 with x | ⟨g, cap, cur, hv, hg, r⟩
      · exact .inl x
      · exact .inr ⟨g, cap, cur, hv, by omega, r⟩⟩, fun hx => by have := S1.out.rep.lt _ hx; omega⟩⟩
  have hn0p : 0 < n := by omega
  have hni : (0 : Int) ≤ n := by omega
  have hni2 : (n : Int) ≤ 256 := by omega
  clear r1 r2 K2 s2 HNV K0 hn0
  go_wp2_with fail
  clear hmk
  generalize w1.heap.size = gv at *
  go_loopg [9, 11, 12, 13] ls.length (fun gk s9 s11 s12 s13 wr => CuR w p n ls la gv gk s9 s11 s12 s13 wr)
  case atStart => exact J0.out
  case round =>
    clear J0
    obtain ⟨k, M, L, f, hk, rfl, rfl, rfl, rfl, j⟩ := hrel
    by_cases hlt : k < ls.length
    · obtain ⟨ao, cc, hv, _, hcells⟩ := HL.out.no j.own.kp
      cases hv
      rcases hcells with hcells | ⟨g, o, rfl, hg, hcells⟩
      · subst hcells; simp at hlt
      have hc : wr.cell? ⟨g, o + k, none⟩ = some (.int .i64 (ls.getD k 0)) := hcells k _ (by simp [hlt])
      have hlti : (k : Int) < ls.length := by omega
      have HK := Lib.hid hk
      have hx := litOf_lt hn0p (ls.getD k 0)
      have hls := litsK_succ (n := n) hlt
      obtain ⟨V, X, A, eV, eX, eA, bV, bX, bA, cu2⟩ := cu_step j.cu (by omega) hn2 (litOf n (ls.getD k 0)) hx
      have hcase := vbits_cases (litsK n ls k) (litOf n (ls.getD k 0)).1
      have hbs := vbits_snoc (litsK n ls k) (litOf n (ls.getD k 0)) (litOf n (ls.getD k 0)).1
      rw [if_pos rfl] at hbs
      have hcb := cnt_spec (ls.map (litOf n)) k (by simp; omega)
      have hcb1 : -1000 ≤ cntL (ls.map (litOf n)) k := hcb.1.1
      have hcb2 : cntL (ls.map (litOf n)) k ≤ 100 := by have := hcb.1.2; omega
      have hpq : pick (ls.getD k 0) (2 * n) / 2 = (litOf n (ls.getD k 0)).1 := rfl
      have hlb : (bits BinOp.and IntKind.i64 (ls.getD k 0) 1 == 1) = (litOf n (ls.getD k 0)).2 := rfl
      have hqi : ((pick (ls.getD k 0) (2 * n) : Nat) : Int) / 2 = ((litOf n (ls.getD k 0)).1 : Int) := by rw [← hpq]; omega
      have PQ := Lib.hid (fun x => Pick_q (m := 2 * n) (s := ls.getD k 0) (i := pick (ls.getD k 0) (2 * n)) rfl (by omega) (by omega) x)
      have hq0 : (0 : Int) ≤ (pick (ls.getD k 0) (2 * n) : Int) := by omega
      have hq1 : (pick (ls.getD k 0) (2 * n) : Int) ≤ 512 := by have := pick_lt (ls.getD k 0) (n := 2 * n) (by omega); omega
      have J := Lib.hid j
      have EV := Lib.hid eV
      have EX := Lib.hid eX
      have EA := Lib.hid eA
      have h2n : ((2 * n : Nat) : Int) = 2 * (n : Int) := by omega
      rw [h2n] at PQ
      clear hk hcells j hls eV eX eA hcb hpq h2n
      obtain ⟨⟨v, b⟩, hxx⟩ : ∃ x, litOf n (ls.getD k 0) = x := ⟨_, rfl⟩
      rw [hxx] at hx hlb hqi hcase EV EX hbs cu2
      have CN := Lib.hid (cnt_next (v := v) (b := b) hxx hlt)
      have NXT := Lib.hid (fun z L' y1 cn wt => cu_next (w := w) (z := z) (p := p) (gv := gv) (la := la) (L' := L') (y1 := y1) (cn := cn) (wt := wt) hxx hlt cu2)
      simp only at hx hlb hqi hcase EV EX hbs
      have HVX := Lib.hid (fun (u : World) (B : Nat) (hr : u.ownsRow B 3 1 (.slice (some ⟨gv, 0, none⟩) n n) n (vrow n (litsK n ls k))) => vrow_cell hr hx)
      clear hxx cu2
      generalize (pick (ls.getD k 0) (2 * n) : Int) = q at *
      generalize ls.getD k 0 = y at *
      generalize vbits (litsK n ls k ++ [(v, b)]) v = xb at *
      generalize vbits (litsK n ls k) v = xa at *
      generalize cntL (ls.map (litOf n)) (k + 1) = cn2 at *
      generalize cntL (ls.map (litOf n)) k = cn1 at *
      generalize hwt : cubeF (litsK n ls k) (asg la) = wt at *
      clear hwt
      have hor : bits BinOp.or IntKind.i64 (xa : Int) 1 = ((xa ||| 1 : Nat) : Int) ∧ (b = true → bits BinOp.or IntKind.i64 ((xa ||| 1 : Nat) : Int) 2 = xb) ∧ (b = false → bits BinOp.or IntKind.i64 ((xa ||| 1 : Nat) : Int) 4 = xb) ∧ xb < 8 := by
        cases b <;> simp only [if_true, if_false, Bool.false_eq_true] at hbs <;> subst hbs <;> rcases hcase with rfl | rfl | rfl | rfl <;> decide
      obtain ⟨ho1, ho2, ho3, hx8⟩ := hor
      have HO2 := Lib.hid ho2
      have HO3 := Lib.hid ho3
      clear hbs hcase ho2 ho3
      generalize xa ||| 1 = xc at *
      -- BEGIN GEN
      go_upto_region 17 with (fail)
      go_quiet ((go_at_call 17; exact Calls.quiet_of_same (PQ.out _)))
      rw [hqi]
      have j1 := J.out.own.no (Kp.drewN nq)
      have r1 := ownsRow_kp J.out.row (Kp.drewN nq) (fun _ _ z => z)
      have OFF := Lib.hid J.out.off
      clear hc PQ hqi hq0 hq1 J
      generalize wr.drewN nq = u1 at *
      go_wp2_with fail
      refine (Var_ok (v : Int) j1.rep (by rw [← EV.out]; exact bV)).mono ?_
      intro e u2 hr
      rw [← EV.out] at hr
      obtain ⟨rfl, L2, j2, r2, f2⟩ := j1.row_step r1 OFF.out hr
      clear hr j1 r1 OFF
      go_upto_if 77 with fail
      go_cut [16] from 59 to 136 (fun s x => s = .int .i64 X.2 ∧ ∃ L3, Own w p x X.1 L3 ∧ x.ownsRow w.heap.size 3 1 (.slice (some ⟨gv, 0, none⟩) n n) n (vrow n (litsK n ls k)) ∧ ¬ L3.at p gv)
      case first =>
        cases b with
        | true =>
          have E : X = V := by have := EX.out; simpa using this
          have J2 := Lib.hid (And.intro j2 (And.intro r2 f2))
          clear j2 r2 f2
          go_wp2_with fail
          go_meet
          case rel => rw [E]; exact ⟨rfl, L2, J2.out.1, J2.out.2.1, J2.out.2.2⟩
        | false =>
          have E : X = V.1.notM V.2 := by have := EX.out; simpa using this
          go_wp2_with fail
          refine (Not_ok V.2 j2.rep (by rw [← E]; exact bX)).mono ?_
          intro e u3 hr
          rw [← E] at hr
          obtain ⟨rfl, L3, j3, r3, f3⟩ := j2.row_step r2 f2 hr
          have J3 := Lib.hid (And.intro j3 (And.intro r3 f3))
          clear hr j2 r2 f2 j3 r3 f3
          go_wp2_with fail
          go_meet
          case rel => exact ⟨by rw [E], L3, J3.out.1, J3.out.2.1, J3.out.2.2⟩
      case rest =>
      clear j2 r2 f2
      obtain ⟨rfl, L3, j3, r3, f3⟩ := hcut
      go_wp2_with fail
      refine (And_ok f X.2 j3.rep (by rw [← EA.out]; exact bA)).mono ?_
      intro e u4 hr
      rw [← EA.out] at hr
      obtain ⟨rfl, L4, j4, r4, f4⟩ := j3.row_step r3 f3 hr
      obtain ⟨c4, z4⟩ := HVX.out u4 _ r4
      have lt4 := (r4.lt gv rfl).2
      have ge4 := (r4.lt gv rfl).1
      have B4 : Hid (v < la.length → ∃ g2 o2, aa = some ⟨g2, o2, none⟩ ∧ ((u4.setCell ⟨gv, v, none⟩ (.int .i64 xc)).setCell ⟨gv, v, none⟩ (.int .i64 xb)).cell? ⟨g2, o2 + v, none⟩ = some (.bool (asg la v))) := Lib.hid (fun hv => bools_cell HA.out j4.kp ge4 hv _ _)
      have C5 : Hid (((u4.setCell ⟨gv, v, none⟩ (.int .i64 xc)).setCell ⟨gv, v, none⟩ (.int .i64 xb)).cell? ⟨gv, v, none⟩ = some (.int .i64 xb)) := Lib.hid (World.cell?_setCell_same _ _ _ (World.cell?_setCell_same _ _ _ c4))
      have N4 := Lib.hid (fun wt' hw => NXT.out u4 L4 xc cn2 wt' j4 r4 f4 rfl hw)
      clear hr j3 r3 f3 j4 r4 f4 NXT HVX EA EX EV bV bX bA ge4
      have hxi : (v : Int) < n := by omega
      go_upto_if 89 with fail
      go_cut [11] from 59 to 136 (fun s x => s = .int .i64 (if xa = 0 then cn1 + 1 else cn1) ∧ x = u4)
      case first =>
        clear CN C5 B4 N4
        by_cases h0 : xa = 0
        · subst h0
          go_wp2_with fail
          go_meet
          case rel => exact ⟨rfl, rfl⟩
        · have h0' : ((xa : Int) == 0) = false := by simp; omega
          go_wp2_with fail
          go_meet
          case rel => exact ⟨by rw [if_neg h0], rfl⟩
      case rest =>
      obtain ⟨hs, hw⟩ := hcut
      replace hw := hw.symm
      subst hs hw
      generalize (if xa = 0 then cn1 + 1 else cn1) = cn3 at *
      go_upto_if 100 with fail
      go_cut [14] from 59 to 136 (fun s x => s = .int .i64 (v : Int) ∧ x = (u4.setCell ⟨gv, v, none⟩ (.int .i64 xc)).setCell ⟨gv, v, none⟩ (.int .i64 xb))
      case first =>
        clear CN C5 B4 N4
        cases b with
        | true =>
          have ho2 := HO2.out rfl
          go_wp2_with fail
          go_meet
          case rel => exact ⟨rfl, rfl⟩
        | false =>
          have ho3 := HO3.out rfl
          go_wp2_with fail
          go_meet
          case rel => exact ⟨rfl, rfl⟩
      case rest =>
      obtain ⟨hs, hw⟩ := hcut
      subst hs
      rw [← hw] at C5 B4 N4
      clear hw c4 z4 lt4 HO2 HO3 ho1 u4
      have c5 := C5.out
      go_upto_if 121 with fail
      go_cut [11] from 59 to 136 (fun s x => s = .int .i64 cn2 ∧ x = wc)
      case first =>
        by_cases h7 : xb = 7
        · subst h7
          go_wp2_with fail
          go_meet
          case rel => exact ⟨by rw [CN.out, if_pos (by trivial)], rfl⟩
        · have h7' : ((xb : Int) == 7) = false := by simp; omega
          go_wp2_with fail
          go_meet
          case rel => exact ⟨by rw [CN.out, if_neg h7], rfl⟩
      case rest =>
      obtain ⟨hs, hw⟩ := hcut
      replace hw := hw.symm
      subst hs hw
      clear c5 C5 CN hx8 hcb1 hcb2 hxi
      cases wt with
      | false =>
        have N := Lib.hid (N4.out false rfl)
        clear N4 B4
        go_wp2_with fail
        go_roundg (ls.length - (k + 1))
        case measure => have := HK.out; omega
        case rel => exact N.out
      | true =>
        have N := Lib.hid (N4.out (asg la v == b) rfl)
        by_cases hvl : v < la.length
        · obtain ⟨g2, o2, rfl, hb2⟩ := B4.out hvl
          have hvi : (v : Int) < la.length := by omega
          clear N4 B4
          generalize asg la v = av at *
          go_wp2_with fail
          go_roundg (ls.length - (k + 1))
          case measure => have := HK.out; omega
          case rel => exact N.out
        · have hav : asg la v = false := by simp [asg, List.getElem?_eq_none (Nat.le_of_not_lt hvl)]
          have hvi : ¬ (v : Int) < la.length := by omega
          have hvd : decide ((v : Int) < (la.length : Int)) = false := decide_eq_false hvi
          rw [hav, show (false == b) = !b from by cases b <;> rfl] at N
          clear N4 B4 hav
          go_wp2_with fail
          go_roundg (ls.length - (k + 1))
          case measure => have := HK.out; omega
          case rel => exact N.out
      -- END GEN
    · obtain rfl : k = ls.length := by omega
      obtain ⟨q1, q2, q3⟩ := Cubes_rest (la := la) hn0p h1 j.cu
      have hge : ¬ (ls.length : Int) < ls.length := by omega
      have EV := Lib.hid (by have := Eval_ok f j.own.rep (HA.out.no j.own.kp); rw [q1] at this; exact this)
      have O := Lib.hid j.own
      have Q2 := Lib.hid q2
      have Q3 := Lib.hid q3
      have HMN := Lib.hid j.cu.nn
      have SZ := Lib.hid (fun x (kx : Kp No wr x) => Size_ok f (j.own.rep.no kx))
      have SU := Lib.hid (fun x (kx : Kp No wr x) => Support_ok f (j.own.rep.no kx) (by rw [j.cu.nn]; omega))
      clear q1 q2 q3 j hk
      generalize cubeF (litsK n ls ls.length) (asg la) = want at *
      generalize cntL (ls.map (litOf n)) ls.length = cn at *
      go_wp2_with fail
      refine EV.out.mono ?_
      rintro e v1 ⟨rfl, k1⟩
      have K1 := Lib.hid k1
      clear k1
      by_cases hneg : cn < 0
      · have hf0 := Q2.out hneg
        subst hf0
        have KF := Lib.hid (O.out.kp.trans_no K1.out)
        cases want <;>
        · go_wp2_with fail
          go_ret
          exact ⟨rfl, KF.out⟩
      · obtain ⟨e1, e2⟩ := Q3.out (by omega)
        have hneg' : decide (cn < 0) = false := decide_eq_false hneg
        have S3 := Lib.hid (by have := SZ.out v1 K1.out; rw [e1] at this; exact this)
        have E2 := Lib.hid e2
        clear e1 e2
        cases want <;>
        · go_wp2_with fail
          refine S3.out.mono ?_
          rintro e v2 ⟨rfl, k2⟩
          have K2 := Lib.hid (K1.out.trans_no k2)
          clear k2
          go_wp2_with fail
          refine (SU.out v2 K2.out).mono ?_
          rintro e v3 ⟨sv, rfl, srow, k3⟩
          obtain ⟨a3, c3, rfl⟩ := natsRow_form srow
          have K3 := Lib.hid (O.out.kp.trans_no (K2.out.trans_no k3))
          have hq : (((M.supM f).length : Int) == cn) = true := by rw [E2.out]; simp
          clear srow k3
          go_wp2_with fail
          go_ret
          exact ⟨rfl, K3.out⟩

end Go.Proofs.Ytifompekiockmaa
