/-
  Walks: the law BddRepeats.
-/
import Derived.Test.YtifompekiockmaaAgrees
import Derived.Test.YtifompekiockmaaBank
import Derived.Test.YtifompekiockmaaRow
import Derived.Deep.CutBlock
namespace Go.Proofs.Ytifompekiockmaa
open Go.RowKit

/-- What a run left, while other blocks change: the run began at block number B with the layout L0. -/
structure Held (B p n : Nat) (L0 : Lay) (wr : World) (M : Mgr) (L : Lay) (fv tv : Value) (fs : List Int) (Fs : List BF) (tvs : List Value) : Prop where
  rep : Rep wr p M L
  fr : ∀ x, L.at p x → L0.at p x ∨ B ≤ x
  frow : wr.ownsRow B 26 1 fv fs.length (fs.map intV)
  trow : wr.ownsRow B 43 1 tv tvs.length tvs
  tlen : tvs.length = fs.length
  flen : Fs.length = fs.length
  tabs : ∀ (i : Nat) (x : Value) (F : BF), tvs[i]? = some x → Fs[i]? = some F → Tb B wr x (tab n F)

section
variable {B : Nat} {w : World} {p n : Nat} {L0 : Lay} {wr w' : World} {M : Mgr} {L : Lay} {fv tv : Value} {fs : List Int} {Fs : List BF} {tvs : List Value}
theorem Held.of (j : RJ w p n L0 wr M L fv tv fs Fs tvs) : Held w.heap.size p n L0 wr M L fv tv fs Fs tvs :=
  ⟨j.sd.rep, j.sd.fr, j.frow, j.trow, j.tlen, j.flen, fun i x F h1 h2 => (j.tabs i x F h1 h2).1⟩
theorem Held.kp {A : Nat → Prop} (j : Held B p n L0 wr M L fv tv fs Fs tvs) (k : Kp A wr w') (hA : ∀ x, A x → x < B ∧ ¬ L0.at p x) : Held B p n L0 w' M L fv tv fs Fs tvs := by
  have off : ∀ {e s v n xs}, wr.ownsRow B e s v n xs → ∀ x, v.ownBlock = some x → ¬ A x := fun h x hx ha => by have := (h.lt x hx).1; have := (hA x ha).1; omega
  refine ⟨j.rep.kp k (fun x ha hx => ?_), j.fr, ownsRow_kp j.frow k (off j.frow), ownsRow_kp j.trow k (off j.trow), j.tlen, j.flen, fun i x F h1 h2 => (j.tabs i x F h1 h2).kp k (off (j.tabs i x F h1 h2))⟩
  rcases j.fr x hx with h | h
  · exact (hA x ha).2 h
  · have := (hA x ha).1; omega
theorem Held.no (j : Held B p n L0 wr M L fv tv fs Fs tvs) (k : Kp No wr w') : Held B p n L0 w' M L fv tv fs Fs tvs := j.kp k (fun _ x => x.elim)
theorem Held.cellF {gf m cf : Nat} (j : Held B p n L0 wr M L (.slice (some ⟨gf, 0, none⟩) m cf) tv fs Fs tvs) {i : Nat} (hi : i < fs.length) : wr.cell? ⟨gf, i, none⟩ = some (.int .i64 (fs.getD i 0)) := by
  obtain ⟨g, cap, hv, _, _, _, hc, _⟩ := ownsRow_open j.frow (by omega)
  cases hv
  exact hc i _ (by simp [intV, hi])
theorem Held.cellT {gt m ct : Nat} (j : Held B p n L0 wr M L fv (.slice (some ⟨gt, 0, none⟩) m ct) fs Fs tvs) {i : Nat} (hi : i < fs.length) : wr.cell? ⟨gt, i, none⟩ = some (tvs.getD i (.bool false)) := by
  have ht := j.tlen
  obtain ⟨g, cap, hv, _, _, _, hc, _⟩ := ownsRow_open j.trow (by omega)
  cases hv
  exact hc i _ (by simp [show i < tvs.length by omega])
theorem Held.tabAt (j : Held B p n L0 wr M L fv tv fs Fs tvs) {i : Nat} (hi : i < fs.length) : Tb B wr (tvs.getD i (.bool false)) (Go.Proofs.Ytifompekiockmaa.tab n (Fs.getD i (fun _ => false))) := by
  have h1 := j.tlen
  have h2 := j.flen
  exact j.tabs i _ _ (by simp [show i < tvs.length by omega]) (by simp [show i < Fs.length by omega])
theorem Held.forms (j : Held B p n L0 wr M L fv tv fs Fs tvs) (h : 0 < fs.length) : ∃ gf cf gt ct, fv = .slice (some ⟨gf, 0, none⟩) fs.length cf ∧ tv = .slice (some ⟨gt, 0, none⟩) fs.length ct := by
  obtain ⟨gf, cf, h1, _⟩ := ownsRow_open j.frow h
  have ht := j.tlen
  obtain ⟨gt, ct, h2, _⟩ := ownsRow_open j.trow (by omega)
  exact ⟨gf, cf, gt, ct, h1, by rw [h2, ht]⟩
end

/-- 'Run' in one manager of several. -/
theorem Run_held {p n : Nat} {L : Lay} (hn : n ≤ 6) (hn1 : 1 ≤ n) {l : List Stp} {sv : Value} {w w1 : World} (R : Rep w1 p (Mgr.new n) L) (hlen : l.length ≤ 40) (hs : StepsAt w sv l) (hB : Below w.heap.size w w1) (ho : ∀ x, L.at p x → w.heap.size ≤ x) :
    Calls Try.prog 33 #[ptr p, .int .i64 (n : Int), sv] w1 fun e w2 => ∃ fv tv L2 tvs, e = .returned (.tuple #[fv, tv]) ∧ Held w1.heap.size p n L w2 (runM (Mgr.new n) n l).1 L2 fv tv (runM (Mgr.new n) n l).2 (runF n l) tvs ∧ Kp (L.at p) w1 w2 := by
  have hoff : ∀ g o n c, sv = .slice (some ⟨g, o, none⟩) n c → l ≠ [] → g < w.heap.size := fun g o n c e hne => by
    obtain ⟨ao, c', hv, h⟩ := hs
    rcases h with h | ⟨g', o', rfl, hg, _⟩
    · exact (hne h).elim
    · rw [hv] at e; cases e; exact hg
  have kp : Kp (fun x => w.heap.size ≤ x) w w1 := ⟨hB.os, hB.tape, hB.output, hB.size, fun k hk _ => hB.block k hk⟩
  have hs1 : StepsAt w1 sv l := hs.kp kp (fun he g o n c e hx => by have := hoff g o n c e he; omega)
  refine (Run_ok hn hn1 l R (Mgr.new_n n) hlen (by simp [Mgr.new]) hs1 (fun he g o n' c e hx => ?_)).mono ?_
  · have := hoff g o n' c e he
    have := ho g hx
    omega
  · rintro e w2 ⟨fv, tv, L2, tvs, rfl, j⟩
    exact ⟨fv, tv, L2, tvs, rfl, Held.of j, j.sd.kp⟩

set_option maxRecDepth 100000 in
set_option maxHeartbeats 4000000 in
theorem BddRepeats_walk (x : Int) (l l2 : List Stp) {sv sv2 : Value} {w : World} (hs : StepsAt w sv l) (hs2 : StepsAt w sv2 l2) :
    Calls Try.prog 8 #[.int .i64 x, sv, sv2] w fun e w' => e = .returned (.bool true) ∧ Kp No w w' := by
  obtain ⟨hn1, hn6⟩ := nv_le x
  have VA := Lib.hid (fun w => Vars_ok x w)
  generalize nv x = n at *
  have NEW := Lib.hid (fun (w0 : World) => by have := New_ok (n : Int) w0; rw [nvars_nat (show n ≤ 256 by omega)] at this; exact this)
  have ST := Lib.hid hs
  have ST2 := Lib.hid hs2
  obtain ⟨ao, c, rfl, _⟩ := hs
  obtain ⟨ao2, c2, rfl, _⟩ := hs2
  by_cases h40 : l.length ≤ 40
  · have hl : ¬ (40 : Int) < l.length := by omega
    have hld : decide ((40 : Int) < l.length) = false := by simp; omega
    by_cases h40' : l2.length ≤ 40
    · have hl2 : ¬ (40 : Int) < l2.length := by omega
      have hld2 : decide ((40 : Int) < l2.length) = false := by simp; omega
      go_enter Try.func8, Try.ntmps8
      go_wp2_with fail
      refine (awake_ok w).mono ?_
      rintro e w0 ⟨rfl, k0⟩
      have K0 := Lib.hid k0
      clear k0
      go_wp2_with fail
      refine (VA.out w0).mono ?_
      rintro e w0' ⟨rfl, rfl⟩
      go_wp2_with fail
      refine (NEW.out w0).mono ?_
      rintro e w1 ⟨pm, Lm, rfl, Rm, km, om⟩
      have RM := Lib.hid Rm
      have KM := Lib.hid km
      have OM := Lib.hid om
      clear Rm km om
      go_wp2_with fail
      refine (NEW.out w1).mono ?_
      rintro e w2 ⟨po, Lo, rfl, Ro, ko, oo⟩
      have RO := Lib.hid Ro
      have KO := Lib.hid ko
      have OO := Lib.hid oo
      clear Ro ko oo
      go_wp2_with fail
      refine (NEW.out w2).mono ?_
      rintro e w3 ⟨px, Lx, rfl, Rx, kx, ox⟩
      have RX := Lib.hid Rx
      have KX := Lib.hid kx
      have OX := Lib.hid ox
      clear Rx kx ox
      have hz0 := K0.out.size
      have hz1 := KM.out.size
      have hz2 := KO.out.size
      have hz3 := KX.out.size
      have KW3 := Lib.hid (((K0.out.trans_no KM.out).trans_no KO.out).trans_no KX.out)
      go_wp2_with fail
      refine (Run_held hn6 hn1 ((RM.out.no KO.out).no KX.out) h40 ST.out KW3.out.below_all (fun y hy => by have := OM.out y hy; omega)).mono ?_
      rintro e w4 ⟨fv, tv, L4, tvs, rfl, hd4, kp4⟩
      have HD4 := Lib.hid hd4
      have KP4 := Lib.hid kp4
      have KW4 := Lib.hid (KW3.out.trans (A' := Lm.at pm) (fun y hy => .inr (by have := OM.out y hy; omega)) kp4)
      have hz4 := kp4.size
      clear hd4 kp4
      go_wp2_with fail
      refine (Run_held hn6 hn1 (RX.out.kp KP4.out (fun y hy hx => by have := RM.out.lt y hy; have := OX.out y hx; omega)) h40' ST2.out KW4.out.below_all (fun y hy => by have := OX.out y hy; omega)).mono ?_
      rintro e w5 ⟨gv, uv, L5, uvs, rfl, hd5, kp5⟩
      have HD5 := Lib.hid hd5
      have KP5 := Lib.hid kp5
      have KW5 := Lib.hid (KW4.out.trans (A' := Lx.at px) (fun y hy => .inr (by have := OX.out y hy; omega)) kp5)
      have hz5 := kp5.size
      clear hd5 kp5
      go_wp2_with fail
      refine (Run_held hn6 hn1 ((((RO.out.no KX.out).kp KP4.out (fun y hy hx => by have := RM.out.lt y hy; have := OO.out y hx; omega))).kp KP5.out (fun y hy hx => by have := OX.out y hy; have := RO.out.lt y hx; omega)) h40 ST.out KW5.out.below_all (fun y hy => by have := OO.out y hy; omega)).mono ?_
      rintro e w6 ⟨hv, rv, L6, rvs, rfl, hd6, kp6⟩
      have KW6 := Lib.hid (KW5.out.trans (A' := Lo.at po) (fun y hy => .inr (by have := OO.out y hy; omega)) kp6)
      have HM := Lib.hid ((HD4.out.kp KP5.out (fun y hy => ⟨RX.out.lt y hy, fun hx => by have := RM.out.lt y hx; have := OX.out y hy; omega⟩)).kp kp6 (fun y hy => ⟨by have := RO.out.lt y hy; omega, fun hx => by have := RM.out.lt y hx; have := OO.out y hy; omega⟩))
      have HX := Lib.hid (HD5.out.kp kp6 (fun y hy => ⟨by have := RO.out.lt y hy; omega, fun hx => by have := RO.out.lt y hy; have := OX.out y hx; omega⟩))
      have HO := Lib.hid hd6
      clear hd6 kp6 HD4 KP4 HD5 KP5 KW3 KW4 KW5 RM RO RX KM KO KX OM OO OX NEW VA ST ST2 hz0 hz1 hz2 hz3 hz4 hz5 K0
      obtain ⟨rp, hFl⟩ := run_rp hn1 hn6 l h40
      obtain ⟨rp2, hFl2⟩ := run_rp hn1 hn6 l2 h40'
      generalize runM (Mgr.new n) n l = X at *
      generalize runF n l = Fs at *
      generalize runM (Mgr.new n) n l2 = X2 at *
      generalize runF n l2 = Gs at *
      obtain ⟨M, fs⟩ := X
      obtain ⟨M2, gs⟩ := X2
      simp only at HM HX HO rp rp2
      have hpos := rp.pos
      have hpos2 := rp2.pos
      have hfl : fs.length ≤ 100 := by rw [← HM.out.flen]; omega
      have hgl : gs.length ≤ 100 := by rw [← HX.out.flen]; omega
      obtain ⟨gf, cf, gt, ct, rfl, rfl⟩ := HM.out.forms (by omega)
      obtain ⟨gh, ch, gr, cr, rfl, rfl⟩ := HO.out.forms (by omega)
      obtain ⟨gg, cg, gu, cu, rfl, rfl⟩ := HX.out.forms (by omega)
      have RP2 := Lib.hid rp2
      clear rp rp2 hFl hFl2
      go_upto_block 0 with (fail)
      go_cut [] (fun y => Kp No w6 y)
      case first =>
        as_aux_lemma =>
          go_wp2_with fail
          go_loopg [16] fs.length (fun gk s16 wr => LpR w6 fs.length gk s16 wr)
          case atStart => exact ⟨0, by omega, rfl, Kp.refl _ _⟩
          case round =>
            obtain ⟨k, hk, rfl, kp⟩ := hrel
            by_cases hlt : k < fs.length
            · have HK := Lib.hid hk
              have KP := Lib.hid kp
              have c1 := (HM.out.no kp).cellF hlt
              have c2 := (HO.out.no kp).cellF hlt
              have hlti : (k : Int) < fs.length := by omega
              clear hk kp
              generalize fs.getD k 0 = f at *
              go_wp2_with fail
              go_quiet (fail)
              go_wp2_with fail
              go_roundg (fs.length - (k + 1))
              case measure => have := HK.out; omega
              case rel => exact ⟨k + 1, by omega, by go_num, KP.out.trans_no (Kp.drewN _)⟩
            · obtain rfl : k = fs.length := by omega
              have KP := Lib.hid kp
              have hlti : ¬ (fs.length : Int) < fs.length := by omega
              clear kp hk
              go_wp2_with fail
              go_meet
              case rel => exact KP.out
      case rest =>
      have KC := Lib.hid hcut
      clear hcut HM HO
      go_wp2_with fail
      go_loopg [17] gs.length (fun gk s17 wr => LpR w6 gs.length gk s17 wr)
      case atStart => exact ⟨0, by omega, rfl, KC.out⟩
      case round =>
        obtain ⟨k, hk, rfl, kp⟩ := hrel
        by_cases hlt : k < gs.length
        · have hd := (HX.out.no kp).no Kp.drew
          obtain ⟨hv, hsem, hup⟩ := RP2.out.at hlt
          have AG := Lib.hid (Agrees_ok (gs.getD k 0) hn6 hd.rep hv hsem hup (hd.tabAt hlt))
          have S0 := Lib.hid (And.intro (hd.cellF hlt) (hd.cellT hlt))
          have CK : Hid (∀ wx, Kp No wr.drew wx → wx.cell? ⟨gg, k, none⟩ = some (.int .i64 (gs.getD k 0)) ∧ wx.cell? ⟨gu, k, none⟩ = some (uvs.getD k (.bool false))) := Lib.hid (fun wx h => ⟨(hd.no h).cellF hlt, (hd.no h).cellT hlt⟩)
          have HK := Lib.hid hk
          have KP := Lib.hid (kp.trans_no Kp.drew)
          have hlti : (k : Int) < gs.length := by omega
          clear hk kp hd hv hsem hup
          generalize gs.getD k 0 = f at *
          generalize uvs.getD k (.bool false) = tx at *
          go_upto_region 22 with (fail)
          go_region_held3 (fun x => x.cell? ⟨gg, k, none⟩ = some (.int .i64 f) ∧ x.cell? ⟨gu, k, none⟩ = some tx) (first | exact S0.out | exact SA.out)
            (first | (go_at_call 28; refine AG.out.mono ?_; rintro e wa ⟨rfl, ka⟩; have KA := Lib.hid (KP.out.trans_no ka); have SA := Lib.hid (CK.out _ ka); clear ka))
          all_goals
            go_wp2_with fail
            go_roundg (gs.length - (k + 1))
            case measure => have := HK.out; omega
            case rel => exact ⟨k + 1, by omega, by go_num, KA.out⟩
        · obtain rfl : k = gs.length := by omega
          have KP := Lib.hid (KW6.out.trans_no kp)
          have hlti : ¬ (gs.length : Int) < gs.length := by omega
          clear kp hk
          go_wp2_with fail
          go_ret
          exact ⟨rfl, KP.out⟩
    · have hl2 : (40 : Int) < l2.length := by omega
      go_enter Try.func8, Try.ntmps8
      go_wp2_with fail
      refine (awake_ok w).mono ?_
      rintro e w0 ⟨rfl, k0⟩
      have K0 := Lib.hid k0
      clear k0
      go_wp2_with fail
      go_ret
      exact ⟨rfl, K0.out⟩
  · have hl : (40 : Int) < l.length := by omega
    go_enter Try.func8, Try.ntmps8
    go_wp2_with fail
    refine (awake_ok w).mono ?_
    rintro e w0 ⟨rfl, k0⟩
    have K0 := Lib.hid k0
    clear k0
    go_wp2_with fail
    go_ret
    exact ⟨rfl, K0.out⟩

end Go.Proofs.Ytifompekiockmaa
