/-
  Walks: the law BddShape.
-/
import Derived.Test.YtifompekiockmaaShaped
namespace Go.Proofs.Ytifompekiockmaa
open Go.RowKit

/-- 'Top' keeps what the Refs denote. -/
theorem RP.top {n c : Nat} {M : Mgr} {fs : List Int} {Fs : List BF} (h : RP n c M fs Fs) (f : Int) : RP n c (topM M f) fs Fs := by
  obtain ⟨wf', or', nn', nd', sem', val', st', ch'⟩ := topM_same h.wf f
  exact ⟨wf', by rw [← h.nn]; unfold Mgr.n; rw [or'], h.len, h.pos, fun i g F hg hF => ⟨val' g (h.sem i g F hg hF).1, fun a => by rw [sem']; exact (h.sem i g F hg hF).2.1 a, (h.sem i g F hg hF).2.2⟩, by rw [nn']; exact h.cost⟩
theorem topM_order {M : Mgr} (h : M.WF) (f : Int) : (topM M f).order = M.order := (topM_same h f).2.1

def ShpR (w : World) (p n : Nat) (fv tv : Value) (fs : List Int) (Fs : List BF) (tvs : List Value) (gk : Nat) (s8 : Value) (x : World) : Prop :=
  ∃ k M L, k + gk = fs.length ∧ s8 = .int .i64 (k : Int) ∧ Front w p n x M L fv tv fs Fs tvs ∧ RP n 50000 M fs Fs ∧ M.order = List.range n

set_option maxRecDepth 100000 in
set_option maxHeartbeats 4000000 in
theorem BddShape_walk (x : Int) (l : List Stp) {sv : Value} {w : World} (hs : StepsAt w sv l) :
    Calls Try.prog 13 #[.int .i64 x, sv] w fun e w' => e = .returned (.bool true) ∧ Kp No w w' := by
  obtain ⟨hn1, hn6⟩ := nv_le x
  have VA := Lib.hid (fun w => Vars_ok x w)
  generalize nv x = n at *
  have NEW := Lib.hid (fun (w0 : World) (k0 : Kp No w w0) => New_own (n := n) (by omega) k0)
  have ST := Lib.hid hs
  obtain ⟨ao, c, rfl, _⟩ := hs
  by_cases h40 : l.length ≤ 20
  · have hl : ¬ (20 : Int) < l.length := by omega
    have h40' : l.length ≤ 40 := by omega
    go_enter Try.func13, Try.ntmps13
    go_wp2_with fail
    refine (awake_ok w).mono ?_
    rintro e w0 ⟨rfl, k0⟩
    have K0 := Lib.hid k0
    clear k0
    go_wp2_with fail
    refine (VA.out w0).mono ?_
    rintro e w0' ⟨rfl, rfl⟩
    go_wp2_with fail
    refine (NEW.out w0 K0.out).mono ?_
    rintro e w1 ⟨p, L1, rfl, s1, k1⟩
    have S1 := Lib.hid s1
    have OC := Lib.hid (Order_ok s1.rep (by rw [Mgr.new_n]; omega))
    clear s1 k1 NEW
    go_wp2_with fail
    refine OC.out.mono ?_
    rintro e w2 ⟨ov, rfl, hor, k2⟩
    have ho : (Mgr.new n).order = List.range n := rfl
    rw [ho] at hor
    have S2 := Lib.hid (S1.out.no k2)
    have HOR := Lib.hid hor
    obtain ⟨a2, c2, rfl⟩ := natsRow_form hor
    rw [List.length_range]
    clear hor k2 ho OC
    go_wp2_with fail
    refine (Identity_ok n hn6 w2).mono ?_
    rintro e w3 ⟨iv, rfl, hir, k3⟩
    have S3 := Lib.hid (S2.out.no k3)
    have IE := Lib.hid (Ints_eq (nats_src (ownsRow_kp HOR.out k3 (fun _ _ z => z))) (nats_src hir) (by simp; omega))
    obtain ⟨a3, c3, rfl⟩ := natsRow_form hir
    rw [List.length_range]
    simp only [List.length_range] at IE
    clear hir k3
    go_wp2_with fail
    refine IE.out.mono ?_
    rintro e w4 ⟨rfl, m4, rfl⟩
    have S4 := Lib.hid (S3.out.no (Kp.drewN (w := w3) m4))
    clear IE HOR
    generalize w3.drewN m4 = y4 at *
    go_wp2_with fail
    refine (Run_own hn6 hn1 S4.out h40' ST.out).mono ?_
    rintro e w5 ⟨fv, tv, L2, tvs, rfl, fr⟩
    obtain ⟨rp, hFl⟩ := run_rp hn1 hn6 l h40'
    have hord : (runM (Mgr.new n) n l).1.order = List.range n := runM_order _ _ _
    generalize runM (Mgr.new n) n l = X at *
    generalize runF n l = Fs at *
    obtain ⟨M, fs⟩ := X
    simp only at fr rp hord
    have hpos := rp.pos
    have hfl : fs.length ≤ 100 := by rw [← fr.flen]; omega
    obtain ⟨gf, cf, gt, ct, rfl, rfl, lf, lt⟩ := fr.forms (by omega)
    have J0 : Hid (ShpR w p n (.slice (some ⟨gf, 0, none⟩) fs.length cf) (.slice (some ⟨gt, 0, none⟩) fs.length ct) fs Fs tvs fs.length (.int .i64 0) w5) := Lib.hid ⟨0, M, L2, by omega, rfl, fr, rp, hord⟩
    clear fr rp hFl hord
    go_wp2_with fail
    go_loopg [8] fs.length (fun gk s8 wr => ShpR w p n (.slice (some ⟨gf, 0, none⟩) fs.length cf) (.slice (some ⟨gt, 0, none⟩) fs.length ct) fs Fs tvs gk s8 wr)
    case atStart => exact J0.out
    case round =>
      clear J0
      obtain ⟨k, M, L, hk, rfl, fr, rp, hord⟩ := hrel
      by_cases hlt : k < fs.length
      · have HK := Lib.hid hk
        have hlti : (k : Int) < fs.length := by omega
        obtain ⟨va, sa, ua⟩ := rp.at hlt
        obtain ⟨tb, tof⟩ := fr.tabAt hlt
        have S0 : Hid (wr.drew.cell? ⟨gf, k, none⟩ = some (.int .i64 (fs.getD k 0)) ∧ wr.drew.cell? ⟨gt, k, none⟩ = some (tvs.getD k (.bool false))) := Lib.hid ⟨(fr.no Kp.drew).cellF hlt, (fr.no Kp.drew).cellT hlt⟩
        have CELLS : Hid (∀ (y : World) (M' : Mgr) (L' : Lay), Front w p n y M' L' (.slice (some ⟨gf, 0, none⟩) fs.length cf) (.slice (some ⟨gt, 0, none⟩) fs.length ct) fs Fs tvs → y.cell? ⟨gf, k, none⟩ = some (.int .i64 (fs.getD k 0)) ∧ y.cell? ⟨gt, k, none⟩ = some (tvs.getD k (.bool false))) := Lib.hid (fun y M' L' f => ⟨f.cellF hlt, f.cellT hlt⟩)
        have SHP : Hid (∀ (y : World) (iv : Value) (B3 : Nat), Kp No wr y → y.ownsRow B3 3 1 iv n ((List.range n).map natV) → wr.heap.size ≤ B3 → Calls Try.prog 41 #[ptr p, .int .i64 (fs.getD k 0), tvs.getD k (.bool false), .int .i64 (n : Int), iv] y (Ret p L y (topM M (fs.getD k 0)) (.bool true))) := Lib.hid (fun y iv B3 ky hi hB3 => by
          refine Shaped_ok (B := w.heap.size) (fs.getD k 0) hn6 rp.nn (fr.own.rep.no ky) va ?_ tof (by rw [hord]; exact hi) ?_ (by have := rp.cost; omega)
          · have : M.sem (fs.getD k 0).toNat = Fs.getD k (fun _ => false) := funext sa
            rw [this]; exact tb.no ky
          · intro b hb hx
            have h1 := (hi.lt b hb).1
            have h2 := fr.own.rep.lt b hx
            omega)
        have NX : Hid (∀ (y z : World) (e : Ending), Kp No wr y → Ret p L y (topM M (fs.getD k 0)) (.bool true) e z → e = .returned (.bool true) ∧ ∃ L', Front w p n z (topM M (fs.getD k 0)) L' (.slice (some ⟨gf, 0, none⟩) fs.length cf) (.slice (some ⟨gt, 0, none⟩) fs.length ct) fs Fs tvs ∧ ShpR w p n (.slice (some ⟨gf, 0, none⟩) fs.length cf) (.slice (some ⟨gt, 0, none⟩) fs.length ct) fs Fs tvs (fs.length - (k + 1)) (.int .i64 ((k + 1 : Nat) : Int)) z) := Lib.hid (fun y z e ky hr => by
          obtain ⟨he, L', fr'⟩ := (fr.no ky).step hr
          exact ⟨he, L', fr', k + 1, _, L', by omega, rfl, fr', rp.top _, by rw [topM_order rp.wf]; exact hord⟩)
        have IDN := Lib.hid (Identity_ok n hn6 wr.drew)
        have FR := Lib.hid fr
        clear hk fr rp hord va sa ua tb tof
        generalize fs.getD k 0 = fk at *
        generalize tvs.getD k (.bool false) = tk at *
        go_upto_region 13 with (fail)
        go_region_held3 (fun y => y.cell? ⟨gf, k, none⟩ = some (.int .i64 fk) ∧ y.cell? ⟨gt, k, none⟩ = some tk) (first | exact S0.out | exact SA.out | exact SB.out)
          (first | (go_at_call 40; (with_reducible refine IDN.out.mono ?_); rintro e wa ⟨iv, rfl, hia, ka⟩; have KA := Lib.hid (Kp.drew.trans_no ka); have SA := Lib.hid (CELLS.out _ _ _ (FR.out.no KA.out)); have CA := Lib.hid (SHP.out wa iv _ KA.out (by rw [List.length_range] at hia; exact hia) (Nat.le_refl _)); clear hia ka) | (go_at_call 41; (with_reducible refine CA.out.mono ?_); intro e wb hr; obtain ⟨rfl, L', frb, nx⟩ := NX.out wa wb e KA.out hr; have SB := Lib.hid (CELLS.out _ _ _ frb); have NB := Lib.hid nx; clear hr frb nx))
        all_goals
          go_wp2_with fail
          go_roundg (fs.length - (k + 1))
          case measure => have := HK.out; omega
          case rel => exact NB.out
      · obtain rfl : k = fs.length := by omega
        have KP := Lib.hid fr.own.kp
        have hlti : ¬ (fs.length : Int) < fs.length := by omega
        clear fr rp hk hord
        go_wp2_with fail
        go_ret
        exact ⟨rfl, KP.out⟩
  · have hl : (20 : Int) < l.length := by omega
    go_enter Try.func13, Try.ntmps13
    go_wp2_with fail
    refine (awake_ok w).mono ?_
    rintro e w0 ⟨rfl, k0⟩
    have K0 := Lib.hid k0
    clear k0
    go_wp2_with fail
    go_ret
    exact ⟨rfl, K0.out⟩

end Go.Proofs.Ytifompekiockmaa
