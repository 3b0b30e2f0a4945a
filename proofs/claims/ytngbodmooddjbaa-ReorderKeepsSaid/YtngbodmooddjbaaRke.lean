/-
  Walks: the law ReorderKeeps.
-/
import Derived.Test.YtngbodmooddjbaaDos
import Derived.Test.YtngbodmooddjbaaRunJ
namespace Go.Proofs.Ytngbodmooddjbaa
open Go.RowKit

/-- Changes of the order: Way, A, B. -/
abbrev ActT := Int × Int × Int
def ActsAt (w : World) (v : Value) (l : List ActT) : Prop :=
  ∃ ao c, v = .slice ao l.length c ∧ l.length ≤ maxLen ∧ (l = [] ∨ ∃ g o, ao = some ⟨g, o, none⟩ ∧ g < w.heap.size ∧ ∀ (i : Nat) (s : ActT), l[i]? = some s →
    w.cell? ⟨g, o + i * 3, none⟩ = some (.int .i64 s.1) ∧ w.cell? ⟨g, o + i * 3 + 1, none⟩ = some (.int .i64 s.2.1) ∧ w.cell? ⟨g, o + i * 3 + 2, none⟩ = some (.int .i64 s.2.2))
theorem ActsAt.no {w w' : World} {v : Value} {l : List ActT} (h : ActsAt w v l) (k : Kp No w w') : ActsAt w' v l := by
  obtain ⟨ao, c, hv, hm, h⟩ := h
  refine ⟨ao, c, hv, hm, ?_⟩
  rcases h with h | ⟨g, o, rfl, hg, h⟩
  · exact .inl h
  · refine .inr ⟨g, o, rfl, Nat.lt_of_lt_of_le hg k.size, fun i s hi => ?_⟩
    obtain ⟨h0, h1, h2⟩ := h i s hi
    have e : ∀ x, w'.cell? ⟨g, x, none⟩ = w.cell? ⟨g, x, none⟩ := fun x => k.cell hg (fun x => x)
    exact ⟨by rw [e]; exact h0, by rw [e]; exact h1, by rw [e]; exact h2⟩
def actL (len : Nat) (c : Nat → Nat → Int) : List ActT := (List.range len).map fun i => (c i 0, c i 1, c i 2)
theorem ActsAt.of {w : World} {v : Value} {len : Nat} {c : Nat → Nat → Int} (h : NumsAt w v 3 (fun _ => .i64) len c) : ActsAt w v (actL len c) := by
  obtain ⟨ao, cap, rfl, hl, h⟩ := h
  have hlen : (actL len c).length = len := by simp [actL]
  refine ⟨ao, cap, by rw [hlen], by rw [hlen]; exact hl, ?_⟩
  rcases h with h | ⟨g, o, rfl, hg, h⟩
  · exact .inl (by simp [actL, h])
  · refine .inr ⟨g, o, rfl, hg, fun i s hs => ?_⟩
    have hi : i < len := by
      rcases Nat.lt_or_ge i len with x | x
      · exact x
      · rw [List.getElem?_eq_none (by rw [hlen]; exact x)] at hs; cases hs
    simp [actL, hi] at hs
    subst hs
    have := h i hi
    exact ⟨by simpa [Nat.add_assoc] using (this 0 (by omega)).1, by simpa [Nat.add_assoc] using (this 1 (by omega)).1, by simpa [Nat.add_assoc] using (this 2 (by omega)).1⟩
set_option maxRecDepth 100000 in
theorem open_acts {H : Type} {enc : TypeId × Value → H} {w : World} {sp : Nat → Bool} {held : Bool} {r : Reach} {b0 : Nat} {v : Value} {d : DataW H} {ps : List MemPlace}
    (hv : Value.okWide Try.prog w r b0 75 v) (h : DataW.Trod enc Try.prog w 0 sp held 75 v d ps) : ∃ l, ActsAt w v l ∧ True := by
  obtain ⟨len, c, hn⟩ := open_nums (kd := fun _ => .i64) (k := 3) Try.underlying75 (fs := Try.prog.fieldsOf 78) (by kernel_rfl) (by kernel_rfl) (by kernel_rfl) (by kernel_rfl) (by kernel_rfl) (by omega) hv h
  exact ⟨_, ActsAt.of hn, trivial⟩

theorem permI_of {n : Nat} {l : List Nat} (hp : PermL l) (hl : l.length = n) : PermI n (l.map Int.ofNat) := by
  refine ⟨by rw [List.length_map, hl], ?_, fun v hv => ?_⟩
  · have h := hp.1
    rw [List.nodup_iff_pairwise_ne] at h ⊢
    rw [List.pairwise_map]
    exact h.imp (fun {a b} hne e => hne (Int.ofNat.inj e))
  · obtain ⟨u, hu, rfl⟩ := List.mem_map.1 hv
    have := hp.2 u hu
    exact ⟨Int.natCast_nonneg _, by show (u : Int) < n; omega⟩
/-- The Refs of the run denote what they denoted. -/
theorem DoJ.rp {w : World} {p n c : Nat} {x : World} {M M0 : Mgr} {L : Lay} {fv tv : Value} {fs : List Int} {Fs : List BF} {tvs : List Value} {l : List Nat} (j : DoJ w p n x M L fv tv fs Fs tvs l M0) (h : RP n c M0 fs Fs) {c' : Nat} (hc : M.nodes.length ≤ c') : RP n c' M fs Fs :=
  ⟨j.fr.own.rep.wf, j.nn, h.len, h.pos, fun i f F h1 h2 => by
    obtain ⟨v, s, u⟩ := h.sem i f F h1 h2
    obtain ⟨m, rfl, _, hm⟩ := Mgr.valid_nat h.wf v
    refine ⟨?_, fun a => ?_, u⟩
    · unfold Mgr.valid at v ⊢
      rw [j.vis]; exact v
    · rw [← s a]
      exact j.sem m hm a, hc⟩
/-- The changes, one after another. -/
def KeR (w : World) (p n N : Nat) (fv tv : Value) (fs : List Int) (Fs : List BF) (tvs : List Value) (M0 : Mgr) (gk : Nat) (so si : Value) (x : World) : Prop :=
  ∃ k l M L ov, k + gk = N ∧ si = .int .i64 (k : Int) ∧ ov = so ∧ DoJ w p n x M L fv tv fs Fs tvs l M0 ∧ RfV x p L ov l ∧ M.nodes.length ≤ 50000 + k * 36450008
/-- A loop that only reads. -/
def KlR (w : World) (N gk : Nat) (s : Value) (wr : World) : Prop := ∃ k, k + gk = N ∧ s = .int .i64 (k : Int) ∧ Kp No w wr

set_option maxRecDepth 1000000 in
set_option maxHeartbeats 16000000 in
theorem ReorderKeeps_walk (x : Int) (l : List Stp) (al : List ActT) {sv av : Value} {w : World} (hs : StepsAt w sv l) (ha : ActsAt w av al) :
    Calls Try.prog 10 #[.int .i64 x, sv, av] w fun e w' => e = .returned (.bool true) ∧ Kp No w w' := by
  obtain ⟨hn1, hn6⟩ := nv_le x
  have VA := Lib.hid (fun w => Vars_ok x w)
  generalize nv x = n at *
  have ST := Lib.hid hs
  have AT := Lib.hid ha
  obtain ⟨ao, c, rfl, _⟩ := hs
  obtain ⟨ao2, c2, rfl, hm2, _⟩ := ha
  unfold maxLen at hm2
  by_cases hg : l.length ≤ 25 ∧ al.length ≤ 12
  case neg =>
    by_cases g1 : (25 : Int) < l.length
    · go_enter Try.func10, Try.ntmps10
      go_wp2_with fail
      refine (rawake_ok w).mono ?_
      rintro e w0 ⟨rfl, k0⟩
      have K0 := Lib.hid k0
      clear k0
      go_wp2_with fail
      go_ret
      exact ⟨rfl, K0.out⟩
    · have g3 : (12 : Int) < al.length := by omega
      go_enter Try.func10, Try.ntmps10
      go_wp2_with fail
      refine (rawake_ok w).mono ?_
      rintro e w0 ⟨rfl, k0⟩
      have K0 := Lib.hid k0
      clear k0
      go_wp2_with fail
      go_ret
      exact ⟨rfl, K0.out⟩
  obtain ⟨g1, g2⟩ := hg
  have g1i : ¬ (25 : Int) < l.length := by omega
  have g2i : ¬ (12 : Int) < al.length := by omega
  have d1 : decide ((25 : Int) < l.length) = false := decide_eq_false g1i
  have d2 : decide ((12 : Int) < al.length) = false := decide_eq_false g2i
  have HG := Lib.hid (And.intro g1 g2)
  have HN := Lib.hid (And.intro hn1 hn6)
  clear g1 g2
  go_enter Try.func10, Try.ntmps10
  go_wp2_with fail
  refine (rawake_ok w).mono ?_
  rintro e w0 ⟨rfl, k0⟩
  have K0 := Lib.hid k0
  clear k0
  go_wp2_with fail
  refine (VA.out w0).mono ?_
  rintro e w0' ⟨rfl, rfl⟩
  go_wp2_with fail
  refine (New_own (n := n) (by omega) K0.out).mono ?_
  rintro e w1 ⟨p, L1, rfl, s1, k1⟩
  have S1 := Lib.hid s1
  clear s1 k1
  go_wp2_with fail
  refine (Run_own hn6 hn1 S1.out (by have := HG.out.1; omega) ST.out).mono ?_
  rintro e w4 ⟨fv, tv, L2, tvs, rfl, fr⟩
  obtain ⟨rp, hFl⟩ := run_rp hn1 hn6 l (by have := HG.out.1; omega)
  have hord : (runM (Mgr.new n) n l).1.order = List.range n := by rw [runM_order]; rfl
  generalize runM (Mgr.new n) n l = X at *
  generalize hFs : runF n l = Fs at *
  have HFS := Lib.hid hFs
  clear hFs
  obtain ⟨M, fs⟩ := X
  simp only at fr rp hord
  have hpos := rp.pos
  have hfl : fs.length ≤ 100 := by rw [← fr.flen, hFl]; have := HG.out.1; omega
  obtain ⟨gf, cf, gt, ct, rfl, rfl, lf, lt⟩ := fr.forms (by omega)
  have FR := Lib.hid fr
  have RPH := Lib.hid rp
  have HORD := Lib.hid hord
  have hfp : 0 < fs.length := by omega
  clear fr rp hFl hord hpos S1 lf lt K0 VA
  go_wp2_with fail
  refine (Identity_ok n HN.out.2 w4).mono ?_
  rintro e w5 ⟨idv, rfl, row, k5⟩
  have J0 : Hid (KeR w p n al.length (.slice (some ⟨gf, 0, none⟩) fs.length cf) (.slice (some ⟨gt, 0, none⟩) fs.length ct) fs Fs tvs M al.length idv (.int .i64 0) w5) := Lib.hid ⟨0, List.range n, M, L2, idv, by omega, rfl, rfl,
    ⟨FR.out.no k5, HORD.out, PermL.range n, List.length_range, fun _ => rfl, fun _ _ _ => rfl⟩,
    ⟨SrcAt.of_row row, by rw [List.length_range]; exact hn1, fun g o m c e hg => by
      have h1 := (row.lt g (by rw [e]; rfl)).1
      have h2 := FR.out.own.rep.lt g hg
      omega, ownsRow_mono row (Nat.zero_le _)⟩, by have := RPH.out.cost; omega⟩
  obtain ⟨ai, ci, rfl, _⟩ := ownsRow_len (row_zero row)
  rw [List.length_range] at J0 ⊢
  clear row k5 FR HORD
  go_wp2
  go_loopg [10, 11] al.length (fun gk so si y => KeR w p n al.length (.slice (some ⟨gf, 0, none⟩) fs.length cf) (.slice (some ⟨gt, 0, none⟩) fs.length ct) fs Fs tvs M gk so si y)
  case atStart => exact J0.out
  case round =>
    clear J0
    obtain ⟨k, l1, M1, L3, ov, hk, rfl, eo, j, V, nb⟩ := hrel
    subst eo
    have HK := Lib.hid hk
    have J := Lib.hid j
    have VV := Lib.hid V
    have NB := Lib.hid nb
    obtain ⟨ao1, co1, rfl⟩ := V.src.form
    by_cases hlt : k < al.length
    · have hlti : (k : Int) < al.length := by omega
      obtain ⟨ao', c', hv', _, hcells⟩ := AT.out.no j.fr.own.kp
      have hv1 : ao2 = ao' := by injection hv'
      subst hv1
      rcases hcells with hcells | ⟨g, o, rfl, hg, hcells⟩
      · rw [hcells] at hlt; simp at hlt
      obtain ⟨⟨A0, A1, A2⟩, hAk⟩ : ∃ s, al[k]? = some s := ⟨al[k], by simp [hlt]⟩
      obtain ⟨f0, f1, f2⟩ := hcells k _ hAk
      simp only at f0 f1 f2
      have BD : DoB n M M1 := ⟨HN.out.1, HN.out.2, RPH.out.wf, RPH.out.cost, by have := HG.out.2; omega⟩
      have DO := Lib.hid (Do_ok A0 A1 A2 j BD V hfp (by omega))
      clear hcells hv' hk j V nb hAk BD
      go_wp2_with fail
      refine DO.out.mono ?_
      rintro e w6 ⟨rv, l2, M2, L4, rfl, j2, V2, nb2⟩
      have J2 := Lib.hid j2
      have VH2 := Lib.hid V2
      have NB2 := Lib.hid nb2
      have hl2 : l2.length ≤ 6 := by rw [j2.len]; exact HN.out.2
      have C5 := Lib.hid (RPerm_ok n (l2.map Int.ofNat) (by have := HN.out.2; omega) (by rw [List.length_map]; omega) V2.src.toI)
      rw [permB_iff.2 (permI_of j2.perm j2.len)] at C5
      obtain ⟨ar, cr, rfl⟩ := V2.src.form
      clear j2 V2 nb2 DO f0 f1 f2
      go_wp2_with fail
      refine C5.out.mono ?_
      rintro e w7 ⟨rfl, m7, rfl⟩
      have J7 := Lib.hid (J2.out.no (Kp.drewN m7))
      have V7 := Lib.hid (VH2.out.no (Kp.drewN m7))
      clear C5 J2 VH2
      generalize w6.drewN m7 = w7 at *
      have C6 := Lib.hid (Order_ok J7.out.fr.own.rep (by rw [J7.out.nn]; have := HN.out.2; omega))
      rw [J7.out.ord] at C6
      go_wp2_with fail
      refine C6.out.mono ?_
      rintro e w8 ⟨ov8, rfl, orow8, k8⟩
      have C7 := Lib.hid (Ints_nat (SrcAt.of_row orow8) (V7.out.no k8).src (by omega))
      have J8 := Lib.hid (J7.out.no k8)
      have V8 := Lib.hid (V7.out.no k8)
      obtain ⟨a8, c8, rfl, _⟩ := ownsRow_len (row_zero orow8)
      clear orow8 k8 C6 J7 V7
      go_wp2_with fail
      refine C7.out.mono ?_
      rintro e w9 ⟨rfl, m9, rfl⟩
      have JN : Hid (KeR w p n al.length (.slice (some ⟨gf, 0, none⟩) fs.length cf) (.slice (some ⟨gt, 0, none⟩) fs.length ct) fs Fs tvs M (al.length - (k + 1)) (.slice ar l2.length cr) (.int .i64 ((k + 1 : Nat) : Int)) (w8.drewN m9)) := Lib.hid ⟨k + 1, l2, M2, L4, _, by omega, rfl, rfl, J8.out.no (Kp.drewN m9), V8.out.no (Kp.drewN m9), by have := NB.out; have := NB2.out; omega⟩
      clear C7 J8 V8
      go_wp2
      go_roundg (al.length - (k + 1))
      case measure => have := HK.out; omega
      case rel => exact JN.out
    · obtain rfl : k = al.length := by omega
      have hge : ¬ (al.length : Int) < al.length := by omega
      have RP1 := Lib.hid (j.rp RPH.out (c' := 1000000000) (by have := HG.out.2; omega))
      clear hk hlt j V nb
      go_wp2
      go_loopg [14] fs.length (fun gk s y => KlR wr fs.length gk s y)
      case atStart => exact ⟨0, by omega, rfl, Kp.refl _ _⟩
      case round =>
        obtain ⟨i, hi, rfl, ki⟩ := hrel
        by_cases hlti : i < fs.length
        · have fr := J.out.fr.no ki
          have fr2 := fr.no (Kp.drew)
          obtain ⟨hv, hsem, hup⟩ := RP1.out.at hlti
          have AG := Lib.hid (Agrees_ok (fs.getD i 0) HN.out.2 fr2.own.rep hv hsem hup (fr2.tabAt hlti).1)
          have S0 := Lib.hid (And.intro (fr2.cellF hlti) (fr2.cellT hlti))
          have HI := Lib.hid hi
          have KP := Lib.hid (ki.trans_no Kp.drew)
          have CK : Hid (∀ wx, Kp No wr.drew wx → wx.cell? ⟨gf, i, none⟩ = some (.int .i64 (fs.getD i 0)) ∧ wx.cell? ⟨gt, i, none⟩ = some (tvs.getD i (.bool false))) := Lib.hid (fun wx h => ⟨(fr2.no h).cellF hlti, (fr2.no h).cellT hlti⟩)
          have hltii : (i : Int) < fs.length := by omega
          clear hi ki fr fr2 hv hsem hup
          generalize fs.getD i 0 = f at *
          generalize tvs.getD i (.bool false) = tx at *
          go_upto_region 21 with (fail)
          go_region_held3 (fun x => x.cell? ⟨gf, i, none⟩ = some (.int .i64 f) ∧ x.cell? ⟨gt, i, none⟩ = some tx) (first | exact S0.out | exact SA.out)
            (first | (go_at_call 46; refine AG.out.mono ?_; rintro e wa ⟨rfl, ka⟩; have KA := Lib.hid (KP.out.trans_no ka); have SA := Lib.hid (CK.out _ ka); clear ka))
          all_goals
            go_wp2_with fail
            go_roundg (fs.length - (i + 1))
            case measure => have := HI.out; omega
            case rel => exact ⟨i + 1, by have := HI.out; omega, by go_num, KA.out⟩
        · obtain rfl : i = fs.length := by omega
          have hge2 : ¬ (fs.length : Int) < fs.length := by omega
          have J3 := Lib.hid (J.out.no ki)
          have RUN := Lib.hid (Run_ok HN.out.2 HN.out.1 l J3.out.fr.own.rep J3.out.nn (by have := HG.out.1; omega) (by have := NB.out; have := HG.out.2; omega) (ST.out.kp J3.out.fr.own.kp (fun _ _ _ _ _ _ x => x)) (fun he g o n' c e hx => by
            obtain ⟨ao', c', hv, h⟩ := ST.out
            rcases h with h | ⟨g', o', rfl, hg, _⟩
            · exact he h
            · rw [hv] at e; cases e
              have := J3.out.fr.own.own g hx
              omega))
          have AGN := Lib.hid (run_again HN.out.2 HN.out.1 l (by rw [HFS.out]; exact RP1.out))
          clear hi ki hlti J RP1 NB
          go_wp2_with fail
          refine RUN.out.mono ?_
          rintro e w8 ⟨fv8, tv8, L8, tvs8, rfl, rj⟩
          have row := rj.frow
          rw [AGN.out] at row
          have KF := Lib.hid (J3.out.fr.own.kp.trans (A' := L3.at p) (fun x hx => .inr (J3.out.fr.own.own x hx)) rj.sd.kp)
          have ROWS := Lib.hid (And.intro row (ownsRow_kp J3.out.fr.frow rj.sd.kp J3.out.fr.fo))
          obtain ⟨g8, c8, rfl, _⟩ := ownsRow_open row hfp
          obtain ⟨at8, ct8, rfl, _⟩ := ownsRow_len (row_zero rj.trow)
          clear rj row RUN J3
          go_wp2
          go_loopg [17] fs.length (fun gk s y => KlR w8 fs.length gk s y)
          case atStart => exact ⟨0, by omega, rfl, Kp.refl _ _⟩
          case round =>
            obtain ⟨q, hq, rfl, kq⟩ := hrel
            have HQ := Lib.hid hq
            by_cases hltq : q < fs.length
            · have hltqi : (q : Int) < fs.length := by omega
              have c0 : wr.cell? ⟨g8, q, none⟩ = some (.int .i64 (fs.getD q 0)) := by
                obtain ⟨g, cap, hv, _, _, _, hc, _⟩ := ownsRow_open (ownsRow_kp ROWS.out.1 kq (fun _ _ h => h)) hfp
                cases hv
                exact hc q _ (by simp [intV, hltq])
              have c1 : wr.cell? ⟨gf, q, none⟩ = some (.int .i64 (fs.getD q 0)) := by
                obtain ⟨g, cap, hv, _, _, _, hc, _⟩ := ownsRow_open (ownsRow_kp ROWS.out.2 kq (fun _ _ h => h)) hfp
                cases hv
                exact hc q _ (by simp [intV, hltq])
              have KQ := Lib.hid kq
              clear hq kq
              generalize fs.getD q 0 = f at *
              go_upto_region 27 with (fail)
              go_region
              all_goals
                go_wp2
                go_roundg (fs.length - (q + 1))
                case measure => have := HQ.out; omega
                case rel => exact ⟨q + 1, by have := HQ.out; omega, by go_num, by first | exact KQ.out | exact KQ.out.trans_no Kp.drew | exact KQ.out.trans_no (Kp.drewN _)⟩
            · obtain rfl : q = fs.length := by omega
              have hge3 : ¬ (fs.length : Int) < fs.length := by omega
              have KE := Lib.hid (KF.out.trans_no kq)
              clear hq kq
              go_wp2
              go_ret
              exact ⟨rfl, KE.out⟩

end Go.Proofs.Ytngbodmooddjbaa
