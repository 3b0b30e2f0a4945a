/-
  Walks: the law QuantComposes.
-/
import Derived.Test.YtohinonkfhkclaaQr
import Derived.Test.YtohinonkfhkclaaQi
import Derived.Deep.RegionHeld3
import Derived.Deep.CutBlock
namespace Go.Proofs.Ytohinonkfhkclaa
open Go.RowKit

theorem co_var (u : Nat) (F : Bfn) (a : Nat → Bool) : coF u F (fun b => b u) a = F a := by
  unfold coF
  have h : ∀ x, a u = x → Mgr.upd a u x = a := fun x hx => by
    funext v; unfold Mgr.upd; split
    · rename_i e; rw [e, hx]
    · rfl
  cases hx : a u
  · rw [if_neg (by simp [hx]), h false hx]
  · rw [if_pos (by simp [hx]), h true hx]
theorem co_true (u : Nat) (F : Bfn) (a : Nat → Bool) : coF u F (fun _ => true) a = F (Mgr.upd a u true) := by simp [coF]
theorem co_false (u : Nat) (F : Bfn) (a : Nat → Bool) : coF u F (fun _ => false) a = F (Mgr.upd a u false) := by simp [coF]

set_option maxRecDepth 1000000 in
set_option maxHeartbeats 16000000 in
theorem QuantComposes_walk (x : Int) (l : List Stp) {sv : Value} {w : World} (hs : StepsAt w sv l) (i1 i2 v : Int) :
    Calls Try.prog 11 #[.int .i64 x, sv, .int .i64 i1, .int .i64 i2, .int .i64 v] w fun e w' => e = .returned (.bool true) ∧ Kp No w w' := by
  obtain ⟨hn1, hn6⟩ := nv_le x
  have VA := Lib.hid (fun w => Vars_ok x w)
  generalize nv x = n at *
  have NEW := Lib.hid (fun (w0 : World) (k0 : Kp No w w0) => New_own (n := n) (by omega) k0)
  have ST := Lib.hid hs
  obtain ⟨ao, c, rfl, _⟩ := hs
  by_cases h40 : l.length ≤ 30
  · have hl : ¬ (30 : Int) < l.length := by omega
    go_enter Try.func11, Try.ntmps11
    go_wp2_with fail
    refine (qawake_ok w).mono ?_
    rintro e w0 ⟨rfl, k0⟩
    have K0 := Lib.hid k0
    clear k0
    go_wp2_with fail
    refine (VA.out w0).mono ?_
    rintro e w0' ⟨rfl, rfl⟩
    go_wp2_with fail
    refine (NEW.out w0 K0.out).mono ?_
    rintro e w1 ⟨p, L1, rfl, s1, k1⟩
    have S1 := Lib.hid s1
    clear s1 k1 NEW
    go_wp2_with fail
    refine (Run_own hn6 hn1 S1.out (by omega) ST.out).mono ?_
    rintro e w2 ⟨fv, tv, L2, tvs, rfl, fr⟩
    obtain ⟨rp, hFl⟩ := run_rp hn1 hn6 l (by omega)
    have pl := run_plain hn1 hn6 l
    generalize runM (Mgr.new n) n l = X at *
    generalize runF n l = Fs at *
    obtain ⟨M, fs⟩ := X
    simp only at fr rp pl
    have hpos := rp.pos
    have hfl : fs.length ≤ 100 := by rw [← fr.flen]; omega
    obtain ⟨gf, cf, gt, ct, rfl, rfl, lf, lt⟩ := fr.forms (by omega)
    have FR := Lib.hid fr
    have RPH := Lib.hid rp
    have PLH := Lib.hid pl
    clear fr rp hFl pl
    have h1 := pick_lt i1 (n := fs.length) (by omega)
    have h2 := pick_lt i2 (n := fs.length) (by omega)
    have P1 := Lib.hid (fun (z : World) => Pick_ok i1 fs.length z (by omega) (by omega))
    have P2 := Lib.hid (fun (z : World) => Pick_ok i2 fs.length z (by omega) (by omega))
    have ALL : Hid (∀ y M' L', Front w p n y M' L' (.slice (some ⟨gf, 0, none⟩) fs.length cf) (.slice (some ⟨gt, 0, none⟩) fs.length ct) fs Fs tvs → y.cell? ⟨gf, pick i1 fs.length, none⟩ = some (.int .i64 (fs.getD (pick i1 fs.length) 0)) ∧ y.cell? ⟨gf, pick i2 fs.length, none⟩ = some (.int .i64 (fs.getD (pick i2 fs.length) 0)) ∧ y.cell? ⟨gt, pick i1 fs.length, none⟩ = some (tvs.getD (pick i1 fs.length) (.bool false)) ∧ y.cell? ⟨gt, pick i2 fs.length, none⟩ = some (tvs.getD (pick i2 fs.length) (.bool false)) ∧ Tb w.heap.size y (tvs.getD (pick i1 fs.length) (.bool false)) (tab n (Fs.getD (pick i1 fs.length) (fun _ => false))) ∧ Tb w.heap.size y (tvs.getD (pick i2 fs.length) (.bool false)) (tab n (Fs.getD (pick i2 fs.length) (fun _ => false)))) := Lib.hid (fun y M' L' j => ⟨j.cellF h1, j.cellF h2, j.cellT h1, j.cellT h2, (j.tabAt h1).1, (j.tabAt h2).1⟩)
    have BK0 := Lib.hid ((Qk.of_rp RPH.out PLH.out).sub (B' := [(fs.getD (pick i1 fs.length) 0, Fs.getD (pick i1 fs.length) (fun _ => false)), (fs.getD (pick i2 fs.length) 0, Fs.getD (pick i2 fs.length) (fun _ => false))]) (fun x hx => by
      have e := FR.out.flen
      rcases List.mem_cons.1 hx with rfl | hx
      · exact mem_zipQ h1 e
      · rw [List.mem_singleton.1 hx]; exact mem_zipQ h2 e))
    have lai : (pick i1 fs.length : Int) < fs.length := by omega
    have lbi : (pick i2 fs.length : Int) < fs.length := by omega
    generalize fs.getD (pick i1 fs.length) 0 = f at *
    generalize fs.getD (pick i2 fs.length) 0 = g at *
    generalize Fs.getD (pick i1 fs.length) (fun _ => false) = F at *
    generalize Fs.getD (pick i2 fs.length) (fun _ => false) = G at *
    generalize tvs.getD (pick i1 fs.length) (.bool false) = ta at *
    generalize tvs.getD (pick i2 fs.length) (.bool false) = tb at *
    generalize pick i1 fs.length = ia at *
    generalize pick i2 fs.length = ib at *
    clear RPH PLH h1 h2 hpos hfl lf lt S1 ST VA K0
    go_wp2_with fail
    refine (P1.out _).mono ?_
    rintro e w' ⟨rfl, rfl⟩
    go_wp2_with fail
    refine (P2.out _).mono ?_
    rintro e w' ⟨rfl, rfl⟩
    clear P1 P2
    have F0 := Lib.hid (FR.out.no Kp.drew)
    have S0 : Hid (w2.drew.cell? ⟨gf, ia, none⟩ = some (.int .i64 f) ∧ w2.drew.cell? ⟨gf, ib, none⟩ = some (.int .i64 g)) := Lib.hid ⟨(ALL.out _ _ _ F0.out).1, (ALL.out _ _ _ F0.out).2.1⟩
    clear FR
    by_cases hv : 0 ≤ v ∧ v < (n : Int)
    · obtain ⟨hv0, hvn⟩ := hv
      obtain ⟨u, rfl⟩ : ∃ u : Nat, v = (u : Int) := ⟨v.toNat, by omega⟩
      have hu : u < n := by omega
      have CO := Lib.hid (ComposeS hn6 F0.out.own.rep BK0.out (by omega) (.head _) (.tail _ (.head _)) hu)
      go_upto_region 11 with fail
      go_region_held3 (fun y => y.cell? ⟨gf, ia, none⟩ = some (.int .i64 f) ∧ y.cell? ⟨gf, ib, none⟩ = some (.int .i64 g)) (exact S0.out) (first | (go_at_call 27; (with_reducible refine CO.out.mono ?_); rintro e w3 ⟨x0, M3, h3, q3, _⟩; obtain ⟨rfl, L3, fr3⟩ := F0.out.step h3; have F3 := Lib.hid fr3; have Q3 := Lib.hid q3; replace S0 := Lib.hid (And.intro (ALL.out _ _ _ F3.out).1 (ALL.out _ _ _ F3.out).2.1); clear h3 q3 fr3))
      clear CO F0 S0 BK0
      have UF := Lib.hid (Q3.out.rd (f := f) (F := F) (.tail _ (.head _))).upto
      have UC := Lib.hid (Q3.out.rd (f := x0) (F := coF u F G) (.head _)).upto
      have hlt0 : decide ((u : Int) < 0) = false := decide_eq_false (by omega)
      have hge0 : decide ((n : Int) ≤ (u : Int)) = false := decide_eq_false (by omega)
      have FD := Lib.hid (F3.out.no Kp.drew)
      have QD := Lib.hid Q3.out.consts
      have SX : Hid (∀ y M' L', Front w p n y M' L' (.slice (some ⟨gf, 0, none⟩) fs.length cf) (.slice (some ⟨gt, 0, none⟩) fs.length ct) fs Fs tvs → y.cell? ⟨gf, ia, none⟩ = some (.int .i64 f) ∧ y.cell? ⟨gt, ia, none⟩ = some ta ∧ y.cell? ⟨gt, ib, none⟩ = some tb) := Lib.hid (fun y M' L' j => by
        obtain ⟨c1, c2, c3, c4, _, _⟩ := ALL.out y M' L' j
        exact ⟨c1, c3, c4⟩)
      have S0 := Lib.hid (SX.out _ _ _ FD.out)
      have hc3 : (0 : Int) ≤ u := by omega
      clear F3 Q3
      go_upto_region 14 with fail
      simp only [List.append]
      go_region_held3 (fun y => y.cell? ⟨gf, ia, none⟩ = some (.int .i64 f) ∧ y.cell? ⟨gt, ia, none⟩ = some ta ∧ y.cell? ⟨gt, ib, none⟩ = some tb) (exact S0.out) (first | (go_at_call 42; have CA := RCompose_ok hn6 hu UF.out (ALL.out _ _ _ FD.out).2.2.2.2.1 (ALL.out _ _ _ FD.out).2.2.2.2.2; (with_reducible refine CA.mono ?_); clear CA; rintro e wa ⟨tv3, rfl, tt, ka⟩; replace FD := Lib.hid (FD.out.no ka); have TT := Lib.hid tt; replace S0 := Lib.hid (SX.out _ _ _ FD.out); clear tt ka) | (go_at_call 36; have CA := Agrees_ok x0 hn6 FD.out.own.rep (QD.out.at (f := x0) (F := coF u F G) (by repeat (first | exact List.Mem.head _ | apply List.Mem.tail))).1 (QD.out.at (f := x0) (F := coF u F G) (by repeat (first | exact List.Mem.head _ | apply List.Mem.tail))).2 UC.out TT.out; (with_reducible refine CA.mono ?_); clear CA; rintro e wa ⟨rfl, ka⟩; replace FD := Lib.hid (FD.out.no ka); replace S0 := Lib.hid (SX.out _ _ _ FD.out); clear ka) | (go_at_call 15; have CA := VarS FD.out.own.rep QD.out (by omega) hu; (with_reducible refine CA.mono ?_); clear CA; rintro e wa ⟨xu, Ma, ha, qa, _⟩; obtain ⟨rfl, La, fa⟩ := FD.out.step ha; replace FD := Lib.hid fa; replace QD := Lib.hid qa; replace S0 := Lib.hid (SX.out _ _ _ FD.out); clear ha qa fa) | (go_at_call 27; have CA := ComposeS hn6 FD.out.own.rep QD.out (by omega) (f := f) (F := F) (g := xu) (G := fun a => a u) (by repeat (first | exact List.Mem.head _ | apply List.Mem.tail)) (by repeat (first | exact List.Mem.head _ | apply List.Mem.tail)) hu; (with_reducible refine CA.mono ?_); clear CA; rintro e wa ⟨z, Ma, ha, qa, _⟩; have er : f = z := qa.eq (f := f) (F := F) (g := z) (G := coF u F (fun a => a u)) (by repeat (first | exact List.Mem.head _ | apply List.Mem.tail)) (List.Mem.head _) (fun a => (co_var u F a).symm); obtain ⟨rfl, La, fa⟩ := FD.out.step ha; subst er; replace FD := Lib.hid fa; replace QD := Lib.hid qa.tail; replace S0 := Lib.hid (SX.out _ _ _ FD.out); clear ha qa fa) | (go_at_call 27; have CA := ComposeS hn6 FD.out.own.rep QD.out (by omega) (f := f) (F := F) (g := 1) (G := fun _ => true) (by repeat (first | exact List.Mem.head _ | apply List.Mem.tail)) (by repeat (first | exact List.Mem.head _ | apply List.Mem.tail)) hu; (with_reducible refine CA.mono ?_); clear CA; intro e wa oa; (first | (have hname := rt; obtain ⟨z, Ma, ha, qa, _⟩ := oa; have er : rt = z := qa.eq (f := rt) (F := fun a => F (Mgr.upd a u true)) (g := z) (G := coF u F (fun _ => true)) (by repeat (first | exact List.Mem.head _ | apply List.Mem.tail)) (List.Mem.head _) (fun a => (co_true u F a).symm); clear hname; obtain ⟨rfl, La, fa⟩ := FD.out.step ha; subst er; replace FD := Lib.hid fa; replace QD := Lib.hid qa.tail) | (obtain ⟨rt, Ma, ha, qa, _⟩ := oa; obtain ⟨rfl, La, fa⟩ := FD.out.step ha; replace FD := Lib.hid fa; replace QD := Lib.hid (qa.cong (G := fun a => F (Mgr.upd a u true)) (co_true u F)))); replace S0 := Lib.hid (SX.out _ _ _ FD.out); clear ha qa fa) | (go_at_call 43; have CA := RestrictS hn6 FD.out.own.rep QD.out (by omega) (f := f) (F := F) (by repeat (first | exact List.Mem.head _ | apply List.Mem.tail)) hu true; (with_reducible refine CA.mono ?_); clear CA; intro e wa oa; (first | (have hname := rt; obtain ⟨z, Ma, ha, qa, _⟩ := oa; have er : rt = z := qa.eq (f := rt) (F := fun a => F (Mgr.upd a u true)) (g := z) (G := fun a => F (Mgr.upd a u true)) (by repeat (first | exact List.Mem.head _ | apply List.Mem.tail)) (List.Mem.head _) (fun _ => rfl); clear hname; obtain ⟨rfl, La, fa⟩ := FD.out.step ha; subst er; replace FD := Lib.hid fa; replace QD := Lib.hid qa.tail) | (obtain ⟨rt, Ma, ha, qa, _⟩ := oa; obtain ⟨rfl, La, fa⟩ := FD.out.step ha; replace FD := Lib.hid fa; replace QD := Lib.hid (qa))); replace S0 := Lib.hid (SX.out _ _ _ FD.out); clear ha qa fa) | (go_at_call 27; have CA := ComposeS hn6 FD.out.own.rep QD.out (by omega) (f := f) (F := F) (g := 0) (G := fun _ => false) (by repeat (first | exact List.Mem.head _ | apply List.Mem.tail)) (by repeat (first | exact List.Mem.head _ | apply List.Mem.tail)) hu; (with_reducible refine CA.mono ?_); clear CA; intro e wa oa; (first | (have hname := rf; obtain ⟨z, Ma, ha, qa, _⟩ := oa; have er : rf = z := qa.eq (f := rf) (F := fun a => F (Mgr.upd a u false)) (g := z) (G := coF u F (fun _ => false)) (by repeat (first | exact List.Mem.head _ | apply List.Mem.tail)) (List.Mem.head _) (fun a => (co_false u F a).symm); clear hname; obtain ⟨rfl, La, fa⟩ := FD.out.step ha; subst er; replace FD := Lib.hid fa; replace QD := Lib.hid qa.tail) | (obtain ⟨rf, Ma, ha, qa, _⟩ := oa; obtain ⟨rfl, La, fa⟩ := FD.out.step ha; replace FD := Lib.hid fa; replace QD := Lib.hid (qa.cong (G := fun a => F (Mgr.upd a u false)) (co_false u F)))); replace S0 := Lib.hid (SX.out _ _ _ FD.out); clear ha qa fa) | (go_at_call 43; have CA := RestrictS hn6 FD.out.own.rep QD.out (by omega) (f := f) (F := F) (by repeat (first | exact List.Mem.head _ | apply List.Mem.tail)) hu false; (with_reducible refine CA.mono ?_); clear CA; intro e wa oa; (first | (have hname := rf; obtain ⟨z, Ma, ha, qa, _⟩ := oa; have er : rf = z := qa.eq (f := rf) (F := fun a => F (Mgr.upd a u false)) (g := z) (G := fun a => F (Mgr.upd a u false)) (by repeat (first | exact List.Mem.head _ | apply List.Mem.tail)) (List.Mem.head _) (fun _ => rfl); clear hname; obtain ⟨rfl, La, fa⟩ := FD.out.step ha; subst er; replace FD := Lib.hid fa; replace QD := Lib.hid qa.tail) | (obtain ⟨rf, Ma, ha, qa, _⟩ := oa; obtain ⟨rfl, La, fa⟩ := FD.out.step ha; replace FD := Lib.hid fa; replace QD := Lib.hid (qa))); replace S0 := Lib.hid (SX.out _ _ _ FD.out); clear ha qa fa))
      all_goals
        have KF := Lib.hid FD.out.own.kp
        clear FD QD S0 SX ALL
        go_wp2_with fail
        go_ret
        exact ⟨by simp, KF.out⟩
    · have hlt0 : (decide (v < 0) || decide ((n : Int) ≤ v)) = true := by
        rw [Bool.or_eq_true, decide_eq_true_eq, decide_eq_true_eq]; omega
      have hr : v < 0 ∨ (n : Int) ≤ v := by omega
      have CO := Lib.hid (Compose_inv1 (v := v) (f := f) (g := g) F0.out.own.rep (.inr (by rw [BK0.out.nn]; exact hv)) (by have := BK0.out.cost; unfold big; omega))
      clear hv
      go_upto_region 11 with fail
      go_region_held3 (fun y => y.cell? ⟨gf, ia, none⟩ = some (.int .i64 f) ∧ y.cell? ⟨gf, ib, none⟩ = some (.int .i64 g)) (exact S0.out) (first | (go_at_call 27; (with_reducible refine CO.out.mono ?_); intro e w3 h3; obtain ⟨rfl, L3, fr3⟩ := F0.out.step h3; have F3 := Lib.hid fr3; replace S0 := Lib.hid (And.intro (ALL.out _ _ _ F3.out).1 (ALL.out _ _ _ F3.out).2.1); clear h3 fr3))
      have KF := Lib.hid F3.out.own.kp
      clear CO F0 S0 BK0 F3 ALL
      rcases hr with hr | hr
      · go_wp2_with fail
        go_ret
        exact ⟨by simp, KF.out⟩
      · have hnl : ¬ v < 0 := by omega
        go_wp2_with fail
        go_ret
        exact ⟨by simp, KF.out⟩
  · have hl : (30 : Int) < l.length := by omega
    go_enter Try.func11, Try.ntmps11
    go_wp2_with fail
    refine (qawake_ok w).mono ?_
    rintro e w0 ⟨rfl, k0⟩
    have K0 := Lib.hid k0
    clear k0
    go_wp2_with fail
    go_ret
    exact ⟨rfl, K0.out⟩

end Go.Proofs.Ytohinonkfhkclaa
