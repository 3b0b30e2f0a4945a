/-
  Walks: the law ReorderSifts.
-/
import Derived.Test.YtngbodmooddjbaaSfw
import Derived.Test.YtngbodmooddjbaaFx
import Derived.Test.YtngbodmooddjbaaRrf
import Derived.Test.YtngbodmooddjbaaShaped
namespace Go.Proofs.Ytngbodmooddjbaa
open Go.RowKit

theorem permI_nat {n : Nat} {l : List Nat} (hp : PermL l) (hl : l.length = n) : PermI n (l.map Int.ofNat) := by
  refine ⟨by rw [List.length_map, hl], ?_, fun v hv => ?_⟩
  · have h := hp.1
    rw [List.nodup_iff_pairwise_ne] at h ⊢
    rw [List.pairwise_map]
    exact h.imp (fun {a b} hne e => hne (Int.ofNat.inj e))
  · obtain ⟨u, hu, rfl⟩ := List.mem_map.1 hv
    have := hp.2 u hu
    exact ⟨Int.natCast_nonneg _, by show (u : Int) < n; omega⟩
/-- The variables outside the list are in ascending order when the order came from the plain one. -/
theorem SftD.asc {M : Mgr} {vs : List Int} {Gs : List Bfn} {l : List Nat} {t t0 : Nat} (d : SftD M vs Gs l t t0) (ho : M.order = List.range M.n) : (keptO vs l).Pairwise (· < ·) := by
  have := d.kept
  rw [ho] at this
  exact kept_asc this
theorem SftD.place {M : Mgr} {vs : List Int} {Gs : List Bfn} {l : List Nat} {t t0 : Nat} (d : SftD M vs Gs l t t0) {v k lv : Nat} (hv : (v : Int) ∈ vs) (hvl : v < l.length) (hlv : lv < l.length) (hk : k < l.length) (e : l[k] = v) {k2 : Nat} (h : IsTot (plO l k lv v) Gs k2) : t ≤ k2 := by
  have e' : l.getD k 0 = v := by rw [List.getD_eq_getElem?_getD, List.getElem?_eq_getElem hk, ← e]; rfl
  rw [plO_ins, eraseIdx_erase d.perm.1 hk, e'] at h
  exact d.stay v hv hvl lv (by omega) k2 h
/-- The orders that are tried once more. -/
def SlI (wb : World) (n gk : Nat) (s20 : Value) (x : World) : Prop := ∃ lv, lv + gk = n ∧ s20 = .int .i64 (lv : Int) ∧ Kp No wb x

set_option maxRecDepth 1000000 in
set_option maxHeartbeats 16000000 in
theorem ReorderSifts_walk (x : Int) (l : List Stp) (wl vs : List Int) {sv wv vv : Value} {w : World} (hs : StepsAt w sv l) (hwl : IntsAt w wv wl) (hvs : IntsAt w vv vs) :
    Calls Try.prog 9 #[.int .i64 x, sv, wv, vv] w fun e w' => e = .returned (.bool true) ∧ Kp No w w' := by
  obtain ⟨i0, hi0, hz0, hz1, hz2⟩ := info_parts info_ref'
  obtain ⟨j0, hj0, hy0, hy1, hy2⟩ := info_parts info_func'
  obtain ⟨k0, hk0, hx0, hx1, hx2⟩ := info_parts info_int
  have ST := Lib.hid hs
  have WT := Lib.hid hwl
  have VS := Lib.hid (SrcAt.of_intsAt hvs)
  have hm1 := IntsAt.lenMax hvs
  unfold maxLen at hm1
  obtain ⟨ao, c, rfl, _⟩ := hs
  obtain ⟨ao2, c2, rfl, hwm, _⟩ := hwl
  obtain ⟨ao3, c3, rfl, _, _⟩ := hvs
  unfold maxLen at hwm
  by_cases hg : l.length ≤ 10 ∧ wl.length ≤ 3 ∧ vs.length ≤ 10
  case neg =>
    by_cases g1 : (10 : Int) < l.length
    · go_enter Try.func9, Try.ntmps9
      go_wp2_with fail
      refine (rawake_ok w).mono ?_
      rintro e w0 ⟨rfl, k0⟩
      have K0 := Lib.hid k0
      clear k0
      go_wp2_with fail
      go_ret
      exact ⟨rfl, K0.out⟩
    · by_cases g2 : (3 : Int) < wl.length
      · go_enter Try.func9, Try.ntmps9
        go_wp2_with fail
        refine (rawake_ok w).mono ?_
        rintro e w0 ⟨rfl, k0⟩
        have K0 := Lib.hid k0
        clear k0
        go_wp2_with fail
        go_ret
        exact ⟨rfl, K0.out⟩
      · have g3 : (10 : Int) < vs.length := by omega
        go_enter Try.func9, Try.ntmps9
        go_wp2_with fail
        refine (rawake_ok w).mono ?_
        rintro e w0 ⟨rfl, k0⟩
        have K0 := Lib.hid k0
        clear k0
        go_wp2_with fail
        go_ret
        exact ⟨rfl, K0.out⟩
  obtain ⟨g1, g2, g3⟩ := hg
  have g1i : ¬ (10 : Int) < l.length := by omega
  have g2i : ¬ (3 : Int) < wl.length := by omega
  have g3i : ¬ (10 : Int) < vs.length := by omega
  have d1 : decide ((10 : Int) < l.length) = false := decide_eq_false g1i
  have d2 : decide ((3 : Int) < wl.length) = false := decide_eq_false g2i
  have d3 : decide ((10 : Int) < vs.length) = false := decide_eq_false g3i
  have HG := Lib.hid (And.intro g1 (And.intro g2 g3))
  have PCK := Lib.hid (fun y => Pick_ok x 5 y (by omega) (by omega))
  obtain ⟨q, hq⟩ : ∃ q, pick x 5 = q := ⟨_, rfl⟩
  have hq4 : q ≤ 4 := by have := pick_lt x (n := 5) (by omega); omega
  rw [hq] at PCK
  clear hq g1 g2 g3
  go_enter Try.func9, Try.ntmps9
  go_wp2_with fail
  refine (rawake_ok w).mono ?_
  rintro e w0 ⟨rfl, k0⟩
  have K0 := Lib.hid k0
  clear k0
  go_wp2_with fail
  refine (PCK.out w0).mono ?_
  rintro e w0' ⟨rfl, rfl⟩
  go_wp2_with fail
  obtain ⟨n, hn⟩ : ∃ n, q + 1 = n := ⟨_, rfl⟩
  rw [show ((1 : Int) + (q : Int)) = (n : Int) by omega]
  have hn1 : 1 ≤ n := by omega
  have hn6 : n ≤ 5 := by omega
  have HN := Lib.hid (And.intro hn1 hn6)
  clear hn hq4 PCK
  refine (New_own (n := n) (by omega) K0.out).mono ?_
  rintro e w1 ⟨p, L1, rfl, s1, k1⟩
  have S1 := Lib.hid s1
  clear s1 k1
  go_wp2_with fail
  refine (Run_own (by omega) hn1 S1.out (by have := HG.out.1; omega) ST.out).mono ?_
  rintro e w4 ⟨fv, tv, L2, tvs, rfl, fr⟩
  obtain ⟨rp, hFl⟩ := run_rp hn1 (by omega) l (by have := HG.out.1; omega)
  have hord : (runM (Mgr.new n) n l).1.order = List.range n := by rw [runM_order]; rfl
  generalize runM (Mgr.new n) n l = X at *
  generalize runF n l = Fs at *
  obtain ⟨M, fs⟩ := X
  simp only at fr rp hord
  have hpos := rp.pos
  have hfl : fs.length ≤ 100 := by rw [← fr.flen, hFl]; have := HG.out.1; omega
  have htl := fr.tlen
  obtain ⟨gf, cf, gt, ct, rfl, rfl, lf, lt⟩ := fr.forms (by omega)
  have FR := Lib.hid fr
  have RPH := Lib.hid rp
  have HORD := Lib.hid hord
  have PKV : Hid (PkV n M wl fs Fs) := Lib.hid (pkv rp)
  have J0 : Hid (PkR w4 fs tvs wl wl.length (.slice none 0 0) (.slice none 0 0) (.int .i64 0) w4) := Lib.hid ⟨0, _, _, by omega, rfl, rfl, rfl, World.ownsRow_nil _ _ _ _, World.ownsRow_nil _ _ _ _, Kp.refl _ _⟩
  have hfl0 : 0 < fs.length := by omega
  have hwl3 : wl.length ≤ 3 := HG.out.2.1
  clear fr rp hFl hord htl hpos ST S1 K0
  go_wp2_with fail
  go_loopg [12, 13, 14] wl.length (fun gk s12 s13 s14 y => PkR w4 fs tvs wl gk s12 s13 s14 y)
  case atStart => exact J0.out
  case round =>
    clear J0
    obtain ⟨k, lv, tv2, hk, rfl, e11, e12, lrow, trow, kp⟩ := hrel
    subst e11 e12
    by_cases hlt : k < wl.length
    · have hqq := pick_lt (wl.getD k 0) (n := fs.length) hfl0
      have PK := Lib.hid (fun y => Pick_ok (wl.getD k 0) fs.length y hfl0 (by omega))
      obtain ⟨ao', c', hv', _, hcells⟩ := WT.out.no (FR.out.own.kp.trans_no kp)
      have hv1 : ao2 = ao' := by injection hv'
      subst hv1
      rcases hcells with hcells | ⟨g, o, rfl, hg, hcells⟩
      · rw [hcells] at hlt; simp at hlt
      have hc : wr.cell? ⟨g, o + k, none⟩ = some (.int .i64 (wl.getD k 0)) := hcells k _ (by simp [hlt])
      have cf1 := (FR.out.no kp).cellF hqq
      have ct1 := (FR.out.no kp).cellT hqq
      have SN1 := Lib.hid (range_snoc k (fun i => (Value.int .i64 (fs.getD (pckd wl fs.length i) 0))))
      have SN2 := Lib.hid (range_snoc k (fun i => tvs.getD (pckd wl fs.length i) (.bool false)))
      rw [show pckd wl fs.length k = pick (wl.getD k 0) fs.length from rfl] at SN1 SN2
      have hlti : (k : Int) < wl.length := by omega
      have HK := Lib.hid hk
      have KP := Lib.hid kp
      have hsz := kp.size
      have LR := Lib.hid lrow
      have TR := Lib.hid trow
      have hz4 : gt < wr.heap.size := by omega
      clear hk kp hcells hv'
      generalize ((List.range k).map fun i => (Value.int .i64 (fs.getD (pckd wl fs.length i) 0))) = lxs at *
      generalize ((List.range k).map fun i => tvs.getD (pckd wl fs.length i) (.bool false)) = txs at *
      generalize wl.getD k 0 = y at *
      have hqi : (pick y fs.length : Int) < fs.length := by omega
      obtain ⟨gq, cq, htq, _⟩ := (FR.out.tabAt hqq).1.form
      generalize pick y fs.length = qq at *
      generalize fs.getD qq 0 = fq at *
      rw [htq] at ct1 SN2
      clear htq
      go_wp2_with fail
      refine (PK.out wr).mono ?_
      rintro e wr' ⟨rfl, rfl⟩
      clear PK hc
      go_upto_region 17 with (at_builtin; refine wpList_append_lies _ rfl (.tmp 65) (.tmp 70) _ rfl w4.heap.size 27 i0 _ 1 8 Try.underlying38 hi0 hz0 hz1 hz2 rfl (by omega) lv k lxs rfl (lrow.alloc _) ⟨wr.heap.size, 0, none⟩ 1 1 [.int .i64 fq] rfl rfl (World.news_of_block (heap_alloc_new _ _)) (by simp [Value.oneCell']) (by omega) (by unfold maxLen; omega) (by omega) (by simp; omega) (wr.heap.size + 1) (by simp) ?_; intro g5 cap5 w5 hown hgrow hat hlt2)
      have kg : Kp (fun b => lv.ownBlock = some b) wr w5 := grown_no (Kp.alloc _) hgrow
      have trow5 := ownsRow_kp trow kg (fun b e z => row_ne (row_zero trow) (row_zero lrow) (by decide) e z)
      have c5 : w5.cell? ⟨gt, qq, none⟩ = some (.slice (some ⟨gq, 0, none⟩) (2 ^ n) cq) := by rw [kg.cell hz4 (fun e => by have := (LR.out.lt gt e).1; omega)]; exact ct1
      have K5 := Lib.hid (KP.out.trans (A' := fun b => lv.ownBlock = some b) (fun b e => .inr (LR.out.lt b e).1) kg)
      have L5 := Lib.hid hown
      have T5 := Lib.hid trow5
      have hsz5 := K5.out.size
      clear cf1 ct1 hown hgrow hat hlt2 lrow trow kg
      go_wp2_with (at_builtin; refine wpList_append_lies _ rfl (.tmp 72) (.tmp 77) _ rfl w4.heap.size 45 j0 _ 1 24 Try.underlying39 hj0 hy0 hy1 hy2 rfl (by omega) tv2 k txs rfl (trow5.alloc _) ⟨w5.heap.size, 0, none⟩ 1 1 [.slice (some ⟨gq, 0, none⟩) (2 ^ n) cq] rfl rfl (World.news_of_block (heap_alloc_new _ _)) (by simp [Value.oneCell']) (by omega) (by unfold maxLen; omega) (by omega) (by simp; omega) (w5.heap.size + 1) (by simp) ?_; intro g6 cap6 w6 hown hgrow hat hlt2)
      have NX : Hid (PkR w4 fs tvs wl (wl.length - (k + 1)) (.slice (some ⟨g5, 0, none⟩) (k + 1) cap5) (.slice (some ⟨g6, 0, none⟩) (k + 1) cap6) (.int .i64 ((k + 1 : Nat) : Int)) w6) := Lib.hid (by
        have kg : Kp (fun b => tv2.ownBlock = some b) w5 w6 := grown_no (Kp.alloc _) hgrow
        exact ⟨k + 1, _, _, by omega, rfl, rfl, rfl, by rw [SN1.out]; exact ownsRow_kp L5.out kg (fun b e z => row_ne (row_zero L5.out) (row_zero T5.out) (by decide) e z), by rw [SN2.out]; exact hown, K5.out.trans (A' := fun b => tv2.ownBlock = some b) (fun b e => .inr (T5.out.lt b e).1) kg⟩)
      clear hown hgrow hat hlt2 trow5 c5
      go_wp2_with fail
      go_roundg (wl.length - (k + 1))
      case measure => have := HK.out; omega
      case rel => exact NX.out
    · obtain rfl : k = wl.length := by omega
      have hge : ¬ (wl.length : Int) < wl.length := by omega
      have PJ := Lib.hid (PkR.done FR.out lrow trow kp)
      clear hk hlt lrow trow kp FR lf lt
      obtain ⟨al, cl, rfl, _⟩ := ownsRow_len (row_zero PJ.out.lr)
      obtain ⟨atv, ctv, rfl, _⟩ := ownsRow_len (row_zero PJ.out.tr)
      have nn := RPH.out.nn
      have cost := RPH.out.cost
      have wfM := RPH.out.wf
      obtain ⟨Gs, hGs⟩ : ∃ G, FlP wl fs Fs = G := ⟨_, rfl⟩
      have GL : Hid (Gs.length ≤ 3 ∧ ∀ G, G ∈ Gs → Rd 0 n G) := Lib.hid (by rw [← hGs]; exact ⟨by rw [FlP_len]; exact hwl3, PKV.out.rd⟩)
      have HGS := Lib.hid hGs
      -- the callees
      have NODES : Hid (∀ (y : World) (M1 : Mgr) (L1 : Lay), PkJ w p n y M1 L1 (.slice (some ⟨gf, 0, none⟩) fs.length cf) (.slice (some ⟨gt, 0, none⟩) fs.length ct) fs Fs tvs wl (.slice al wl.length cl) (.slice atv wl.length ctv) → PkV n M1 wl fs Fs → ∀ (o : List Nat) (B3 : Nat) (ov : Value), PermL o → o.length = n → y.ownsRow B3 3 1 ov o.length (o.map natV) →
          Calls Try.prog 42 #[.slice atv wl.length ctv, ov] y fun e y' => ∃ a k c, e = .returned (.slice a k c) ∧ IsTot o Gs k ∧ k ≤ 100000 ∧ Kp No y y') := Lib.hid (fun y M1 L1 j pk o B3 ov hp hl ho => by
        have tb := j.tabs pk
        rw [HGS.out, ← hl] at tb
        exact RNodesO hp (by rw [hl]; have := HN.out.2; omega) (by rw [hl]; exact GL.out.2) (by have := GL.out.1; omega) tb ho)
      have SIFT : Hid (∀ (y : World) (M1 : Mgr) (L1 : Lay) (sv : Value), PkJ w p n y M1 L1 (.slice (some ⟨gf, 0, none⟩) fs.length cf) (.slice (some ⟨gt, 0, none⟩) fs.length ct) fs Fs tvs wl (.slice al wl.length cl) (.slice atv wl.length ctv) → PkV n M1 wl fs Fs → M1.n = n → (visF M1).length ≤ 50000 → M1.nodes.length ≤ 100000000 → SrcAt y sv 1 vs.length (vs.map intV) →
          Calls Try.prog 43 #[ptr p, .slice al wl.length cl, sv] y (SftP y p M1 L1 vs Gs)) := Lib.hid (fun y M1 L1 sv j pk hn hv hm src => by
        have h3 := three_pow (n := n) (by have := HN.out.2; omega)
        have hb := ar_bound (M := M1) (by rw [hn]; have := HN.out.2; omega) hv
        have := Sift_ok (lsP wl fs) vs j.fr.own.rep j.lsrc src (by rw [lsP_len]; omega) (by have := HG.out.2.2; omega) (by omega) (by rw [hn]; have := HN.out.2; omega) (by unfold big; omega) (by
          rw [lsP_len, hn]
          have : wl.length * 3 ^ n ≤ 3 * 729 := Nat.mul_le_mul hwl3 h3
          omega)
        rw [pk.vld, HGS.out] at this
        exact this)
      have ORD : Hid (∀ (y : World) (M1 : Mgr) (L1 : Lay), PkJ w p n y M1 L1 (.slice (some ⟨gf, 0, none⟩) fs.length cf) (.slice (some ⟨gt, 0, none⟩) fs.length ct) fs Fs tvs wl (.slice al wl.length cl) (.slice atv wl.length ctv) → M1.n = n → Calls Try.prog 38 #[ptr p] y (NatsPost y M1.order)) := Lib.hid (fun y M1 L1 j hn => Order_ok j.fr.own.rep (by rw [hn]; have := HN.out.2; omega))
      have NN := Lib.hid nn
      have COST := Lib.hid cost
      have WF := Lib.hid wfM
      have C1 := Lib.hid (ORD.out wr M L2 PJ.out nn)
      clear nn cost wfM hGs
      go_wp2_with fail
      refine C1.out.mono ?_
      rintro e w5 ⟨ov, rfl, orow, k5⟩
      have PJ5 := Lib.hid (PJ.out.no k5)
      have OR5 := Lib.hid orow
      rw [HORD.out] at OR5
      have C2 := Lib.hid (NODES.out w5 M L2 PJ5.out PKV.out (List.range n) _ ov (PermL.range n) List.length_range OR5.out)
      obtain ⟨aov, cov, rfl, _⟩ := ownsRow_len (row_zero orow)
      clear orow k5 C1
      go_wp2_with fail
      refine C2.out.mono ?_
      rintro e w6 ⟨an, kb, cn, rfl, tb, hkb, k6⟩
      have PJ6 := Lib.hid (PJ5.out.no k6)
      have TB := Lib.hid tb
      clear tb k6 C2 OR5
      -- the list of variables
      have S6 := Lib.hid (VS.out.no PJ6.out.fr.own.kp)
      have HONE : Hid (∀ z ∈ vs.map intV, z.oneCell' = true) := Lib.hid (fun z hz => by obtain ⟨y, _, rfl⟩ := List.mem_map.1 hz; rfl)
      have hvl : vs.length ≤ 10 := HG.out.2.2
      go_wp2_with (at_builtin; refine wpList_append_src rfl _ _ rfl (base := w6.heap.size) (v := .slice none 0 0) Try.underlying33 hk0 hx0 hx1 hx2 rfl (by omega) rfl (World.ownsRow_nil _ _ _ _) rfl S6.out HONE.out (by unfold maxLen; omega) (by omega) (by omega) ?_; intro v7 w7 hown hgrow hat)
      have k7 : Kp No w6 w7 := (Kp.grown hgrow).mono (fun z _ h => by simp [Value.ownBlock] at h)
      have PJ7 := Lib.hid (PJ6.out.no k7)
      have C3 := Lib.hid (SIFT.out w7 M L2 v7 PJ7.out PKV.out NN.out (Nat.le_trans (visF_le WF.out (fun _ => rfl)) COST.out) (by have := COST.out; omega) (by
        have h := SrcAt.of_row hown
        simpa using h))
      clear k7 hown hgrow hat S6
      refine C3.out.mono ?_
      rintro e w8 ⟨l8, t, t0, rfl, ar8, sd⟩
      obtain ⟨M8, L8, pj8, o8, v8, s8, nb8, _, _⟩ := PJ7.out.ar ar8
      have PJ8 := Lib.hid pj8
      have PKV8 : Hid (PkV n M8 wl fs Fs) := Lib.hid (PKV.out.ar WF.out v8 s8)
      have hl8 : l8.length = n := by rw [sd.len]; exact NN.out
      have HL8 := Lib.hid hl8
      have N8 : Hid (M8.n = n) := Lib.hid (by unfold Mgr.n; rw [o8]; exact hl8)
      have V8 : Hid ((visF M8).length ≤ 50000 ∧ M8.nodes.length ≤ 100000000) := Lib.hid (by
        have h1 := visF_le WF.out v8
        have h2 := COST.out
        have h3 := ar_bound (M := M) (by rw [NN.out]; have := HN.out.2; omega) (Nat.le_trans (visF_le WF.out (fun _ => rfl)) COST.out)
        exact ⟨by omega, by omega⟩)
      have SD := Lib.hid sd
      have OFF8 : Hid (∀ k, L8.at p k → k < w8.heap.size) := Lib.hid (fun k h => pj8.fr.own.rep.lt k h)
      have O8 := Lib.hid o8
      have hle : ¬ ((kb : Int) < (t : Int)) := by
        have h1 := SD.out.h0
        rw [HORD.out] at h1
        have := h1.uniq TB.out
        have := SD.out.le
        omega
      have hldn : decide (kb < t) = false := decide_eq_false (by omega)
      have C4 := Lib.hid (ORD.out w8 M8 L8 PJ8.out N8.out)
      clear ar8 pj8 v8 s8 nb8 sd o8 C3 PJ7 hl8
      go_wp2_with fail
      refine C4.out.mono ?_
      rintro e w9 ⟨ov9, rfl, orow9, k9⟩
      rw [O8.out] at orow9
      have PJ9 := Lib.hid (PJ8.out.no k9)
      have OR9 := Lib.hid orow9
      obtain ⟨aov9, cov9, rfl, _⟩ := ownsRow_len (row_zero orow9)
      have C5 := Lib.hid (RPerm_ok n (l8.map Int.ofNat) (by have := HN.out.2; omega) (by rw [List.length_map, HL8.out]; have := HN.out.2; omega) (SrcAt.of_row orow9).toI)
      rw [permB_iff.2 (permI_nat SD.out.perm HL8.out)] at C5
      clear orow9 k9 C4 PJ8
      go_wp2_with fail
      refine C5.out.mono ?_
      rintro e w10 ⟨rfl, m10, rfl⟩
      have PJ10 := Lib.hid (PJ9.out.no (Kp.drewN m10))
      have OR10 := Lib.hid (ownsRow_kp OR9.out (Kp.drewN (w := w9) m10) (fun _ _ h => h))
      clear C5 PJ9 OR9
      generalize w9.drewN m10 = w10 at *
      have C6 := Lib.hid (NODES.out w10 M8 L8 PJ10.out PKV8.out l8 _ _ SD.out.perm HL8.out OR10.out)
      go_wp2_with fail
      refine C6.out.mono ?_
      rintro e w11 ⟨an2, k2, cn2, rfl, tb2, hk2, k11⟩
      obtain rfl : k2 = t := tb2.uniq SD.out.ht
      have PJ11 := Lib.hid (PJ10.out.no k11)
      have OR11 := Lib.hid (ownsRow_kp OR10.out k11 (fun _ _ h => h))
      have C7 := Lib.hid (Fixed_ok (SrcAt.of_row OR11.out) (VS.out.no PJ11.out.fr.own.kp) (by rw [HL8.out]; have := HN.out.2; omega) (by omega) (SD.out.asc (by rw [HORD.out, NN.out])))
      clear tb2 k11 C6 PJ10 OR10
      go_wp2_with fail
      refine C7.out.mono ?_
      rintro e w12 ⟨rfl, m12, rfl⟩
      have PJ12 := Lib.hid (PJ11.out.no (Kp.drewN m12))
      have OR12 := Lib.hid (ownsRow_kp OR11.out (Kp.drewN (w := w11) m12) (fun _ _ h => h))
      clear C7 PJ11 OR11 hle hldn
      generalize w11.drewN m12 = w12 at *
      go_wp2
      go_loopg [19] vs.length (fun gk s19 y => SlI w12 vs.length gk s19 y)
      case atStart => exact ⟨0, by omega, rfl, Kp.refl _ _⟩
      case round =>
        obtain ⟨i, hi, rfl, ki⟩ := hrel
        have HI := Lib.hid hi
        have KI := Lib.hid ki
        by_cases hlti : i < vs.length
        · have hltii : (i : Int) < vs.length := by omega
          obtain ⟨u, hu⟩ : ∃ u, vs[i] = u := ⟨_, rfl⟩
          have HU : Hid (u ∈ vs) := Lib.hid (by rw [← hu]; exact List.getElem_mem hlti)
          have CU : Hid (∀ y, Kp No w12 y → ∃ g o, ao3 = some ⟨g, o, none⟩ ∧ g < y.heap.size ∧ y.cell? ⟨g, o + i, none⟩ = some (.int .i64 u)) := Lib.hid (fun y ky => by
            obtain ⟨g, o, c', hv, gl, hc⟩ := (VS.out.no (PJ12.out.fr.own.kp.trans_no ky)).cellAt (by omega)
            cases hv
            refine ⟨g, o, rfl, gl, ?_⟩
            rw [← hu]
            exact hc i _ (by simp [hlti, intV]))
          clear hi ki hu
          go_wp2
          go_loopg [20] n (fun gk s20 y => SlI w12 n gk s20 y)
          case atStart => exact ⟨0, by omega, rfl, KI.out⟩
          case round =>
            obtain ⟨lv, hlv, rfl, kv⟩ := hrel
            have HLV := Lib.hid hlv
            have KV := Lib.hid kv
            by_cases hltv : lv < n
            · have hltvi : (lv : Int) < n := by omega
              obtain ⟨g, o, rfl, gl, fu⟩ := CU.out wr kv
              have src : SrcAt wr (.slice aov9 l8.length cov9) 1 l8.length (l8.map natV) := (SrcAt.of_row OR12.out).no kv
              by_cases hub : 0 ≤ u ∧ u < l8.length
              · obtain ⟨v, rfl⟩ := Int.eq_ofNat_of_zero_le hub.1
                have hvl : v < l8.length := by omega
                obtain ⟨kk, hkk, ekk⟩ := List.getElem_of_mem (SD.out.perm.has hvl)
                have C8 := Lib.hid (RefPlace_row v lv kk src (by rw [HL8.out]; have := HN.out.2; omega) hvl (by rw [HL8.out]; exact hltv) SD.out.perm.1 hkk ekk)
                have PLP := Lib.hid (SD.out.perm.pl (i := lv) hkk ekk)
                have LESS : Hid (∀ k3, IsTot (plO l8 kk lv v) Gs k3 → k2 ≤ k3) := Lib.hid (fun k3 h => SD.out.place HU.out hvl (by rw [HL8.out]; exact hltv) hkk ekk h)
                clear hlv kv src hub hvl
                go_wp2_with fail
                refine C8.out.mono ?_
                rintro e y1 ⟨rv, rfl, hrl, rrow, ky1⟩
                have PJy := Lib.hid ((PJ12.out.no KV.out).no ky1.1)
                have C9 := Lib.hid (NODES.out y1 M8 L8 PJy.out PKV8.out (plO l8 kk lv v) _ rv PLP.out (by rw [hrl]; exact HL8.out) rrow)
                have KY := Lib.hid (KV.out.trans_no ky1.1)
                obtain ⟨arv, crv, rfl, _⟩ := ownsRow_len (row_zero rrow)
                clear rrow ky1 C8 hrl fu
                go_wp2_with fail
                refine C9.out.mono ?_
                rintro e y2 ⟨an3, k3, cn3, rfl, tb3, hk3, ky2⟩
                have hnl : ¬ ((k3 : Int) < (k2 : Int)) := by have := LESS.out k3 tb3; omega
                have KY2 := Lib.hid (KY.out.trans_no ky2)
                clear tb3 ky2 C9 PJy
                go_wp2
                go_roundg (n - (lv + 1))
                case measure => have := HLV.out; omega
                case rel => exact ⟨lv + 1, by omega, rfl, KY2.out⟩
              · have C8 := Lib.hid (RefPlace_bad u (lv : Int) src (by rw [HL8.out]; have := HN.out.2; omega) (fun h => hub h.1))
                clear hlv kv src hub
                go_wp2_with fail
                refine C8.out.mono ?_
                rintro e y1 ⟨rv, rfl, hrl, rsrc, ky1, _⟩
                have KY := Lib.hid (KV.out.trans_no ky1)
                clear rsrc ky1 C8 hrl fu
                go_wp2
                go_roundg (n - (lv + 1))
                case measure => have := HLV.out; omega
                case rel => exact ⟨lv + 1, by omega, rfl, KY.out⟩
            · obtain rfl : lv = n := by omega
              have hge : ¬ (lv : Int) < lv := by omega
              clear hlv kv hltv
              go_wp2
              go_roundg (vs.length - (i + 1))
              case measure => have := HI.out; omega
              case rel => exact ⟨i + 1, by omega, rfl, KV.out⟩
        · obtain rfl : i = vs.length := by omega
          have hge : ¬ (vs.length : Int) < vs.length := by omega
          have PJ13 := Lib.hid (PJ12.out.no ki)
          have OR13 := Lib.hid (ownsRow_kp OR12.out ki (fun _ _ h => h))
          have S13 := Lib.hid (VS.out.no PJ13.out.fr.own.kp)
          clear hi ki hlti KI PJ12 OR12
          go_wp2_with (at_builtin; refine wpList_append_src rfl _ _ rfl (base := wr.heap.size) (v := .slice none 0 0) Try.underlying33 hk0 hx0 hx1 hx2 rfl (by omega) rfl (World.ownsRow_nil _ _ _ _) rfl S13.out HONE.out (by unfold maxLen; omega) (by omega) (by omega) ?_; intro v14 w14 hown hgrow hat)
          have k14 : Kp No wr w14 := (Kp.grown hgrow).mono (fun z _ h => by simp [Value.ownBlock] at h)
          have PJ14 := Lib.hid (PJ13.out.no k14)
          have OR14 := Lib.hid (ownsRow_kp OR13.out k14 (fun _ _ h => h))
          have C10 := Lib.hid (SIFT.out w14 M8 L8 v14 PJ14.out PKV8.out N8.out V8.out.1 V8.out.2 (by
            have h := SrcAt.of_row hown
            simpa using h))
          clear k14 hown hgrow hat S13 PJ13 OR13
          refine C10.out.mono ?_
          rintro e w15 ⟨l15, t15, t16, rfl, ar15, sd⟩
          have el : l15 = l8 := by
            have h0 := sd.h0
            rw [O8.out] at h0
            obtain rfl := h0.uniq SD.out.ht
            have h2 := sd.same
            rw [O8.out] at h2
            exact h2 SD.out.stay
          obtain rfl : t15 = k2 := by
            have h1 := sd.ht
            rw [el] at h1
            exact h1.uniq SD.out.ht
          rw [el] at ar15
          obtain ⟨M15, L15, pj15, o15, _, _, _, kp15, _⟩ := PJ14.out.ar ar15
          have PJ15 := Lib.hid pj15
          have N15 : Hid (M15.n = n) := Lib.hid (by unfold Mgr.n; rw [o15]; exact HL8.out)
          have OR15 := Lib.hid (ownsRow_kp OR14.out kp15 (fun k hk h => by
            have h1 := (OR14.out.lt k hk).1
            have h2 := OFF8.out k h
            omega))
          have O15 := Lib.hid o15
          have C11 := Lib.hid (ORD.out w15 M15 L15 PJ15.out N15.out)
          clear sd el ar15 pj15 o15 kp15 C10 PJ14 OR14
          go_wp2_with fail
          refine C11.out.mono ?_
          rintro e w16 ⟨ov16, rfl, orow16, k16⟩
          rw [O15.out] at orow16
          have C12 := Lib.hid (Ints_nat (SrcAt.of_row orow16) ((SrcAt.of_row OR15.out).no k16) (by rw [HL8.out]; have := HN.out.2; omega))
          have KF := Lib.hid (PJ15.out.no k16).fr.own.kp
          obtain ⟨aov16, cov16, rfl, _⟩ := ownsRow_len (row_zero orow16)
          clear orow16 k16 C11 PJ15 OR15
          go_wp2_with fail
          refine C12.out.mono ?_
          rintro e w17 ⟨rfl, m17, rfl⟩
          go_wp2_with fail
          go_ret
          exact ⟨rfl, KF.out.trans_no (Kp.drewN _)⟩

end Go.Proofs.Ytngbodmooddjbaa
