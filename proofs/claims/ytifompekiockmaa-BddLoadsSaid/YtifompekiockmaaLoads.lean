/-
  Walks: the law BddLoads.
-/
import Derived.Test.YtifompekiockmaaAgrees
import Derived.Test.YtifompekiockmaaRLoad
import Derived.Test.YtifompekiockmaaRowB
namespace Go.Proofs.Ytifompekiockmaa
open Go.RowKit

theorem Bk.new {n : Nat} : Bk n 2 (Mgr.new n) [] := ⟨Mgr.new_wf n, Mgr.new_n n, by simp [Mgr.new], fun x hx => by simp at hx⟩

/-- A row that the manager's layout does not touch stays what it is, and so does what was loaded. -/
structure LdE (w : World) (p n : Nat) (x : World) (M : Mgr) (fv : Value) (rs : List Int) (Fs : List BF) (tv : Value) (tvs : List Value) (N : Nat) : Prop where
  kp : Kp No w x
  rep : ∃ L, Rep x p M L
  rl : rs.length = N + 2
  src : SrcAt x fv 1 N ((rs.drop 2).map intV)
  tl : tvs.length = N + 2
  tsrc : SrcAt x tv 1 N (tvs.drop 2)
  tabs : ∃ B, ∀ i, i < tvs.length → Tb B x (tvs.getD i (.bool false)) (tab n (Fs.getD i (fun _ => false)))
  sem : ∀ i, i < rs.length → M.valid (rs.getD i 0) = true ∧ (∀ a, M.sem (rs.getD i 0).toNat a = Fs.getD i (fun _ => false) a) ∧ Upto n (Fs.getD i (fun _ => false))

theorem LdE.no {w : World} {p n : Nat} {x y : World} {M : Mgr} {fv : Value} {rs : List Int} {Fs : List BF} {tv : Value} {tvs : List Value} {N : Nat} (j : LdE w p n x M fv rs Fs tv tvs N) (k : Kp No x y) : LdE w p n y M fv rs Fs tv tvs N := by
  obtain ⟨L, R⟩ := j.rep
  obtain ⟨B, t⟩ := j.tabs
  exact ⟨j.kp.trans_no k, ⟨L, R.no k⟩, j.rl, j.src.no k, j.tl, j.tsrc.no k, ⟨B, fun i hi => (t i hi).no k⟩, j.sem⟩

set_option maxRecDepth 100000 in
set_option maxHeartbeats 4000000 in
theorem BddLoads_walk (x : Int) (xs : List Trip) {nv : Value} {w : World} (hs : SrcAt w nv 3 xs.length (xs.flatMap cells3)) :
    Calls Try.prog 4 #[.int .i64 x, nv] w fun e w' => e = .returned (.bool true) ∧ Kp No w w' := by
  obtain ⟨i0, hi0, hz0, hz1, hz2⟩ := info_parts info_apinode
  obtain ⟨hn1, hn6⟩ := nv_le x
  have VA := Lib.hid (fun w => Vars_ok x w)
  generalize Go.Proofs.Ytifompekiockmaa.nv x = n at *
  have NEW := Lib.hid (fun (w0 : World) (k0 : Kp No w w0) => New_own (n := n) (by omega) k0)
  have ST := Lib.hid hs
  obtain ⟨ao, c, rfl⟩ := hs.form
  clear hs
  by_cases h30 : xs.length ≤ 30
  · have hl : ¬ (30 : Int) < xs.length := by omega
    go_enter Try.func4, Try.ntmps4
    go_wp2_with fail
    refine (awake_ok w).mono ?_
    rintro e w0 ⟨rfl, k0⟩
    have K0 := Lib.hid k0
    clear k0
    go_wp2_with fail
    refine (VA.out w0).mono ?_
    rintro e w0' ⟨rfl, rfl⟩
    go_wp2_with fail
    refine (NEW.out w0 K0.out).mono ?_
    rintro e w1 ⟨p, L1, rfl, s1, k1⟩
    have S1 := Lib.hid s1
    have SRC1 := Lib.hid (ST.out.no k1)
    have h3 : ∀ u ∈ xs.flatMap cells3, u.oneCell' = true := by
      intro u hu
      obtain ⟨t, _, ht⟩ := List.mem_flatMap.1 hu
      simp [cells3] at ht
      rcases ht with rfl | rfl | rfl <;> rfl
    have H3 := Lib.hid h3
    clear s1 k1 NEW h3
    go_wp2_with (at_builtin; refine wpList_append_src rfl _ _ rfl (base := w1.heap.size) (v := .slice none 0 0) Try.underlying32 hi0 hz0 hz1 hz2 rfl (by omega) rfl (World.ownsRow_nil _ _ _ _) rfl SRC1.out H3.out (by unfold maxLen; omega) (by omega) (Nat.le_refl _) ?_; intro v2 w2 hown hgrow hat)
    have k2 : Kp No w1 w2 := (Kp.grown hgrow).mono (fun x _ h => by simp [Value.ownBlock] at h)
    have row2 : w2.ownsRow w1.heap.size 65 3 v2 xs.length (xs.flatMap cells3) := by simpa using hown
    have s2 := S1.out.no k2
    have LC := Lib.hid (Load_ok xs hn6 s2.rep Bk.new (by omega) (by omega) (SrcAt.of_row row2) (fun _ g o m q e hx => by
      have h1 := (row2.lt g (by
        obtain ⟨a', c', hv', _⟩ := ownsRow_len (row_zero row2)
        rcases row2.2 with ⟨hx', _⟩ | ⟨g', cap', cur', hv2, _⟩
        · rw [hx'] at e; cases e
        · rw [hv2] at e ⊢; cases e; rfl)).1
      have h2 := S1.out.rep.lt g hx
      omega))
    have S2 := Lib.hid s2
    obtain ⟨a2, c2, rfl, _⟩ := ownsRow_len (row_zero row2)
    have SRC2 := Lib.hid (SRC1.out.no k2)
    clear hown hgrow hat k2 row2 s2
    refine LC.out.mono ?_
    intro e w3 hpost
    clear LC
    rcases hpost with ⟨hok, rv, M', L', av, rs, rfl, hrl, hsrc, hj, _, _⟩ | ⟨hno, rfl, k3⟩
    · have RL := Lib.hid (RLoad_ok xs hn6 (by omega) (SRC2.out.kp hj.sd.kp (fun hne g o m q e hx => by
        have h1 := (S1.out.own g hx)
        obtain ⟨ao', c', hv', _, hh⟩ := ST.out
        rcases hh with hh | ⟨g', o', rfl, hg', _⟩
        · exact hne hh
        · rw [hv'] at e
          cases e
          omega)))
      have HOK := Lib.hid hok
      have HSRC := Lib.hid hsrc
      have HJ := Lib.hid hj
      have HRL := Lib.hid hrl
      obtain ⟨ar, cr, rfl⟩ := hsrc.form
      clear hok hsrc hj hrl
      go_wp2_with fail
      refine RL.out.mono ?_
      intro e w4 hpost
      clear RL
      rcases hpost with ⟨_, tv, lv, tvs, rfl, htl, htsrc, htj⟩ | ⟨hno, _⟩
      · obtain ⟨at_, ct, rfl⟩ := htsrc.form
        have k4 := htj.kp
        have LE : Hid (LdE w p n w4 M' (.slice ar xs.length cr) rs (loadF xs) (.slice at_ xs.length ct) tvs xs.length) := Lib.hid
          ⟨(S2.out.kp.trans (A' := L1.at p) (fun y hy => .inr (S1.out.own y hy)) HJ.out.sd.kp).trans_no k4, ⟨L', HJ.out.sd.rep.no k4⟩, HRL.out, HSRC.out.no k4, htl, htsrc, ⟨_, fun i hi => htj.at hi⟩,
            fun i hi => HJ.out.bk.zip_at HJ.out.len hi⟩
        clear k4 htj htsrc htl HJ HSRC HRL HOK S1 S2 SRC1 SRC2 ST
        go_wp2_with fail
        go_loopg [10] xs.length (fun gk s10 wr => LpR w4 xs.length gk s10 wr)
        case atStart => exact ⟨0, by omega, rfl, Kp.refl _ _⟩
        case round =>
          obtain ⟨k, hk, rfl, kp⟩ := hrel
          by_cases hlt : k < xs.length
          · have j := (LE.out.no kp).no Kp.drew
            obtain ⟨gf, of, qf, hvf, _, hcf⟩ := j.src.cellAt (by omega)
            obtain ⟨gt, ot, qt, hvt, _, hct⟩ := j.tsrc.cellAt (by omega)
            cases hvf
            cases hvt
            have hi2 : k + 2 < rs.length := by rw [j.rl]; omega
            have hi3 : k + 2 < tvs.length := by rw [j.tl]; omega
            obtain ⟨hv, hsem, hup⟩ := j.sem (k + 2) hi2
            obtain ⟨L, R⟩ := j.rep
            obtain ⟨B, tb⟩ := j.tabs
            have AG := Lib.hid (Agrees_ok (rs.getD (k + 2) 0) hn6 R hv hsem hup (tb (k + 2) hi3))
            have e1 : ((rs.drop 2).map intV)[k]? = some (.int .i64 (rs.getD (k + 2) 0)) := by
              rw [List.getElem?_map, List.getElem?_drop, Nat.add_comm]; simp [hi2, intV]
            have e2 : (tvs.drop 2)[k]? = some (tvs.getD (k + 2) (.bool false)) := by
              rw [List.getElem?_drop, Nat.add_comm]; simp [hi3]
            have CK : Hid (∀ wx, Kp No wr.drew wx → wx.cell? ⟨gf, of + k, none⟩ = some (.int .i64 (rs.getD (k + 2) 0)) ∧ wx.cell? ⟨gt, ot + k, none⟩ = some (tvs.getD (k + 2) (.bool false))) := Lib.hid (fun wx h => by
              obtain ⟨g1, o1, q1, hv1, _, hc1⟩ := (j.no h).src.cellAt (by omega)
              obtain ⟨g2, o2, q2, hv2, _, hc2⟩ := (j.no h).tsrc.cellAt (by omega)
              cases hv1
              cases hv2
              exact ⟨hc1 k _ e1, hc2 k _ e2⟩)
            have S0 := Lib.hid (CK.out _ (Kp.refl _ _))
            have HK := Lib.hid hk
            have KP := Lib.hid (kp.trans_no Kp.drew)
            have hlti : (k : Int) < xs.length := by omega
            clear hk kp j hv hsem hup R tb e1 e2 hcf hct
            generalize rs.getD (k + 2) 0 = f at *
            generalize tvs.getD (k + 2) (.bool false) = tx at *
            go_upto_region 16 with (fail)
            go_region_held3 (fun y => y.cell? ⟨gf, of + k, none⟩ = some (.int .i64 f) ∧ y.cell? ⟨gt, ot + k, none⟩ = some tx) (first | exact S0.out | exact SA.out)
              (first | (go_at_call 28; refine AG.out.mono ?_; rintro e wa ⟨rfl, ka⟩; have KA := Lib.hid (KP.out.trans_no ka); have SA := Lib.hid (CK.out _ ka); clear ka))
            all_goals
              go_wp2_with fail
              go_roundg (xs.length - (k + 1))
              case measure => have := HK.out; omega
              case rel => exact ⟨k + 1, by omega, by go_num, KA.out⟩
          · obtain rfl : k = xs.length := by omega
            have KP := Lib.hid (LE.out.kp.trans_no kp)
            have hlti : ¬ (xs.length : Int) < xs.length := by omega
            clear kp hk
            go_wp2_with fail
            go_ret
            exact ⟨rfl, KP.out⟩
      · exact (hno HOK.out).elim
    · have RL := Lib.hid (RLoad_ok xs hn6 (by omega) (SRC2.out.no k3))
      have HNO := Lib.hid hno
      have K3 := Lib.hid (S2.out.kp.trans_no k3)
      clear hno k3
      go_wp2_with fail
      refine RL.out.mono ?_
      intro e w4 hpost
      clear RL
      rcases hpost with ⟨hok, _⟩ | ⟨_, rfl, k4⟩
      · exact (HNO.out hok).elim
      · have K4 := Lib.hid (K3.out.trans_no k4)
        clear k4
        go_wp2_with fail
        go_loopg [10] 0 (fun gk s10 wr => LpR w4 0 gk s10 wr)
        case atStart => exact ⟨0, by omega, rfl, Kp.refl _ _⟩
        case round =>
          obtain ⟨k, hk, rfl, kp⟩ := hrel
          obtain rfl : k = 0 := by omega
          have KP := Lib.hid (K4.out.trans_no kp)
          clear kp hk
          go_wp2_with fail
          go_ret
          exact ⟨rfl, KP.out⟩
  · have hl : (30 : Int) < xs.length := by omega
    go_enter Try.func4, Try.ntmps4
    go_wp2_with fail
    refine (awake_ok w).mono ?_
    rintro e w0 ⟨rfl, k0⟩
    have K0 := Lib.hid k0
    clear k0
    go_wp2_with fail
    go_ret
    exact ⟨rfl, K0.out⟩

def trpL (len : Nat) (c : Nat → Nat → Int) : List Trip := (List.range len).map fun i => (c i 0, c i 1, c i 2)
theorem SrcAt.of_nums {w : World} {v : Value} {len : Nat} {c : Nat → Nat → Int} (h : NumsAt w v 3 (fun _ => .i64) len c) : SrcAt w v 3 (trpL len c).length ((trpL len c).flatMap cells3) := by
  obtain ⟨ao, cap, rfl, hl, h⟩ := h
  have hlen : (trpL len c).length = len := by simp [trpL]
  rw [hlen]
  refine ⟨ao, cap, rfl, by rw [cells3_len, hlen], ?_⟩
  rcases h with h | ⟨g, o, rfl, hg, h⟩
  · exact .inl h
  · refine .inr ⟨g, o, rfl, hg, fun j u hu => ?_⟩
    have hj : j < len * 3 := by
      have := (List.getElem?_eq_some_iff.1 hu).1
      rw [cells3_len, hlen] at this
      exact this
    obtain ⟨a, b, c'⟩ := cells3_get (trpL len c) (f := j / 3) (by rw [hlen]; omega)
    have hd : (trpL len c).getD (j / 3) (0, 0, 0) = (c (j / 3) 0, c (j / 3) 1, c (j / 3) 2) := by simp [trpL, show j / 3 < len by omega]
    rw [hd] at a b c'
    have hm := h (j / 3) (by omega)
    have hr : j % 3 = 0 ∨ j % 3 = 1 ∨ j % 3 = 2 := by omega
    rcases hr with hr | hr | hr
    · have e : j = j / 3 * 3 := by omega
      have h0 := (hm 0 (by omega)).1
      rw [Nat.add_zero, ← e] at h0
      rw [← e, hu] at a
      rw [h0, ← Option.some.inj a]
    · have e : j = j / 3 * 3 + 1 := by omega
      have h0 := (hm 1 (by omega)).1
      rw [← e] at h0
      rw [← e, hu] at b
      rw [h0, ← Option.some.inj b]
    · have e : j = j / 3 * 3 + 2 := by omega
      have h0 := (hm 2 (by omega)).1
      rw [← e] at h0
      rw [← e, hu] at c'
      rw [h0, ← Option.some.inj c']

set_option maxRecDepth 100000 in
theorem open_nodes {H : Type} {enc : TypeId × Value → H} {w : World} {sp : Nat → Bool} {held : Bool} {r : Reach} {b0 : Nat} {v : Value} {d : DataW H} {ps : List MemPlace}
    (hv : Value.okWide Try.prog w r b0 32 v) (h : DataW.Trod enc Try.prog w 0 sp held 32 v d ps) : ∃ l : List Trip, SrcAt w v 3 l.length (l.flatMap cells3) ∧ True := by
  obtain ⟨len, c, hn⟩ := open_nums (kd := fun _ => .i64) (k := 3) Try.underlying32 (fs := Try.prog.fieldsOf 65) (by kernel_rfl) (by kernel_rfl) (by kernel_rfl) (by kernel_rfl) (by kernel_rfl) (by omega) hv h
  exact ⟨_, SrcAt.of_nums hn, trivial⟩

end Go.Proofs.Ytifompekiockmaa
