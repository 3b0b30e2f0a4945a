/-
  Walks: the law QuantRenames.
-/
import Derived.Test.YtohinonkfhkclaaQv
import Derived.Deep.CutBlock
namespace Go.Proofs.Ytohinonkfhkclaa
open Go.RowKit

set_option maxRecDepth 1000000 in
set_option maxHeartbeats 16000000 in
theorem QuantRenames_walk (x : Int) (l : List Stp) {sv : Value} {w : World} (hs : StepsAt w sv l) (i1 : Int) (l1 l2 : List Int) {wv uv : Value} (hls : IntsAt w wv l1) (hus : IntsAt w uv l2) :
    Calls Try.prog 9 #[.int .i64 x, sv, .int .i64 i1, wv, uv] w fun e w' => e = .returned (.bool true) ∧ Kp No w w' := by
  obtain ⟨hn1, hn6⟩ := nv_le x
  have VA := Lib.hid (fun w => Vars_ok x w)
  generalize nv x = n at *
  have NEW := Lib.hid (fun (w0 : World) (k0 : Kp No w w0) => New_own (n := n) (by omega) k0)
  have ST := Lib.hid hs
  obtain ⟨ao, c, rfl, _⟩ := hs
  have HS1 := Lib.hid (fun (y : World) (k : Kp No w y) => (SrcAt.of_intsAt hls).no k)
  have HS2 := Lib.hid (fun (y : World) (k : Kp No w y) => (SrcAt.of_intsAt hus).no k)
  have hm1 := IntsAt.lenMax hls
  have hm2 := IntsAt.lenMax hus
  unfold maxLen at hm1 hm2
  obtain ⟨aw, cw, rfl, _, _⟩ := hls
  obtain ⟨au, cu, rfl, _, _⟩ := hus
  by_cases hlong0 : 10 < l1.length
  · have hlongi0 : (10 : Int) < l1.length := by omega
    by_cases h30 : 30 < l.length
    · have h30i : (30 : Int) < l.length := by omega
      go_enter Try.func9, Try.ntmps9
      go_wp2_with fail
      refine (qawake_ok w).mono ?_
      rintro e w0 ⟨rfl, k0⟩
      have K0 := Lib.hid k0
      clear k0
      go_wp2_with fail
      go_ret
      exact ⟨rfl, K0.out⟩
    · have h30i : ¬ (30 : Int) < l.length := by omega
      go_enter Try.func9, Try.ntmps9
      go_wp2_with fail
      refine (qawake_ok w).mono ?_
      rintro e w0 ⟨rfl, k0⟩
      have K0 := Lib.hid k0
      clear k0
      go_wp2_with fail
      go_ret
      exact ⟨rfl, K0.out⟩
  have hlongi0 : ¬ (10 : Int) < l1.length := by omega
  by_cases hlong1 : 10 < l2.length
  · have hlongi1 : (10 : Int) < l2.length := by omega
    by_cases h30 : 30 < l.length
    · have h30i : (30 : Int) < l.length := by omega
      go_enter Try.func9, Try.ntmps9
      go_wp2_with fail
      refine (qawake_ok w).mono ?_
      rintro e w0 ⟨rfl, k0⟩
      have K0 := Lib.hid k0
      clear k0
      go_wp2_with fail
      go_ret
      exact ⟨rfl, K0.out⟩
    · have h30i : ¬ (30 : Int) < l.length := by omega
      go_enter Try.func9, Try.ntmps9
      go_wp2_with fail
      refine (qawake_ok w).mono ?_
      rintro e w0 ⟨rfl, k0⟩
      have K0 := Lib.hid k0
      clear k0
      go_wp2_with fail
      go_ret
      exact ⟨rfl, K0.out⟩
  have hlongi1 : ¬ (10 : Int) < l2.length := by omega
  by_cases h40 : l.length ≤ 30
  · have hl : ¬ (30 : Int) < l.length := by omega
    go_enter Try.func9, Try.ntmps9
    go_wp2_with fail
    refine (qawake_ok w).mono ?_
    rintro e w0 ⟨rfl, k0⟩
    have K0 := Lib.hid k0
    clear k0
    go_wp2_with fail
    refine (VA.out w0).mono ?_
    rintro e w0' ⟨rfl, rfl⟩
    go_wp2_with fail
    refine (NEW.out w0 K0.out).mono ?_
    rintro e w1 ⟨p, L1, rfl, s1, k1⟩
    have S1 := Lib.hid s1
    clear s1 k1 NEW
    go_wp2_with fail
    refine (Run_own hn6 hn1 S1.out (by omega) ST.out).mono ?_
    rintro e w2 ⟨fv, tv, L2, tvs, rfl, fr⟩
    obtain ⟨rp, hFl⟩ := run_rp hn1 hn6 l (by omega)
    have pl := run_plain hn1 hn6 l
    generalize runM (Mgr.new n) n l = X at *
    generalize runF n l = Fs at *
    obtain ⟨M, fs⟩ := X
    simp only at fr rp pl
    have hpos := rp.pos
    have hfl : fs.length ≤ 100 := by rw [← fr.flen]; omega
    obtain ⟨gf, cf, gt, ct, rfl, rfl, lf, lt⟩ := fr.forms (by omega)
    have FR := Lib.hid fr
    have RPH := Lib.hid rp
    have PLH := Lib.hid pl
    clear fr rp hFl pl
    have h1 := pick_lt i1 (n := fs.length) (by omega)
    have P1 := Lib.hid (fun (z : World) => Pick_ok i1 fs.length z (by omega) (by omega))
    have ALL : Hid (∀ y M' L', Front w p n y M' L' (.slice (some ⟨gf, 0, none⟩) fs.length cf) (.slice (some ⟨gt, 0, none⟩) fs.length ct) fs Fs tvs → (y.cell? ⟨gf, pick i1 fs.length, none⟩ = some (.int .i64 (fs.getD (pick i1 fs.length) 0)) ∧ y.cell? ⟨gt, pick i1 fs.length, none⟩ = some (tvs.getD (pick i1 fs.length) (.bool false))) ∧ Tb w.heap.size y (tvs.getD (pick i1 fs.length) (.bool false)) (tab n (Fs.getD (pick i1 fs.length) (fun _ => false)))) := Lib.hid (fun y M' L' j => ⟨⟨j.cellF h1, j.cellT h1⟩, (j.tabAt h1).1⟩)
    have BK0 := Lib.hid ((Qk.of_rp RPH.out PLH.out).sub (B' := [(fs.getD (pick i1 fs.length) 0, Fs.getD (pick i1 fs.length) (fun _ => false))]) (fun x hx => by
      have e := FR.out.flen
      rw [List.mem_singleton.1 hx]; exact mem_zipQ h1 e))
    have lai : (pick i1 fs.length : Int) < fs.length := by omega
    generalize fs.getD (pick i1 fs.length) 0 = f at *
    generalize Fs.getD (pick i1 fs.length) (fun _ => false) = F at *
    generalize tvs.getD (pick i1 fs.length) (.bool false) = ta at *
    generalize pick i1 fs.length = ia at *
    clear RPH PLH h1 hpos hfl lf lt S1 ST VA K0
    obtain ⟨i0, hi0, hz0, hz1, hz2⟩ := info_parts info_int
    have HONE1 : Hid (∀ u ∈ l1.map intV, u.oneCell' = true) := Lib.hid (fun u hu => by obtain ⟨b, _, rfl⟩ := List.mem_map.1 hu; rfl)
    have HONE2 : Hid (∀ u ∈ l2.map intV, u.oneCell' = true) := Lib.hid (fun u hu => by obtain ⟨b, _, rfl⟩ := List.mem_map.1 hu; rfl)
    have VB1 := Lib.hid (fun (y : World) (k : Kp No w y) => RVariables_ok n l1 (by omega) (HS1.out y k))
    have VB2 := Lib.hid (fun (y : World) (k : Kp No w y) => RVariables_ok n l2 (by omega) (HS2.out y k))
    have DI1 := Lib.hid (fun (y : World) (k : Kp No w y) => RDistinct_ok l1 (by omega) (HS1.out y k))
    go_wp2_with fail
    refine (P1.out _).mono ?_
    rintro e w' ⟨rfl, rfl⟩
    clear P1
    have FD := Lib.hid (FR.out.no Kp.drew)
    have QD := Lib.hid BK0.out
    have S0 := Lib.hid (ALL.out _ _ _ FD.out).1
    clear FR BK0
    go_upto_region 11 with fail
    by_cases hgood : l1.length = l2.length ∧ varsB n l1 = true ∧ varsB n l2 = true ∧ distB l1 = true
    · obtain ⟨hlen, hv1, hv2, hdis⟩ := hgood
      obtain ⟨fr, e1, hfr⟩ := varsB_nat hv1
      obtain ⟨tg, e2, htg⟩ := varsB_nat hv2
      have hnd : fr.Nodup := by rw [e1] at hdis; exact distB_nats.1 hdis
      have hl : fr.length = tg.length := by rw [e1, e2, List.length_map, List.length_map] at hlen; exact hlen
      have hfl1 : fr.length ≤ 1000000 := by have h := congrArg List.length e1; rw [List.length_map] at h; omega
      have C1 : Hid (∀ y v, SrcAt y v 1 l1.length (l1.map intV) → SrcAt y v 1 fr.length (fr.map natV)) := Lib.hid (fun y v h => by rw [e1] at h; exact h.nats)
      have C2 : Hid (∀ y v, SrcAt y v 1 l2.length (l2.map intV) → SrcAt y v 1 tg.length (tg.map natV)) := Lib.hid (fun y v h => by rw [e2] at h; exact h.nats)
      have CN : Hid (∀ y M L c B f F, Rep y p M L → Qk n c M B → c ≤ 900000000000 → (f, F) ∈ B → ∀ fv tv, SrcAt y fv 1 l1.length (l1.map intV) → SrcAt y tv 1 l2.length (l2.map intV) → Calls Try.prog 22 #[ptr p, .int .i64 f, fv, tv] y (OpQ p n (c + 16777300) L y (rnF (rnT n fr tg) F) B)) := Lib.hid (fun y M L c B f F R b hc hf fv tv h1 h2 =>
        RenameS hn6 (by omega) R b hc hf fr tg hl hfl1 hfr htg hnd (fun v hv => rnI_lt htg fr.length (by omega) v hv) (C1.out y fv h1) (C2.out y tv h2))
      have hleni : (l1.length : Int) = (l2.length : Int) := by omega
      have e3 : ((l1.length : Int) != (l2.length : Int)) = false := by simp [hleni]
      have e4 : ((l1.length : Int) == (l2.length : Int)) = true := by simp [hleni]
      have RFN : Hid (∀ y B0, Kp No w y → Tb B0 y ta (tab n F) → Upto n F → Calls Try.prog 37 #[ta, .slice aw l1.length cw, .slice au l2.length cu] y (TPost y (tab n (rnF (rnT n fr tg) F)))) := Lib.hid (fun y B0 k h u =>
        RRename_ok hn6 fr tg hl hfl1 hfr htg u h (C1.out _ _ (HS1.out y k)) (by rw [hl]; exact C2.out _ _ (HS2.out y k)))
      rw [hv1] at VB1
      rw [hv2] at VB2
      rw [hdis] at DI1
      clear e1 e2 hfr htg hnd hl hfl1 C1 C2 hlen hleni hv1 hv2 hdis
      go_region_held3 (fun y => y.cell? ⟨gf, ia, none⟩ = some (.int .i64 f) ∧ y.cell? ⟨gt, ia, none⟩ = some ta) (exact S0.out) (first | (refine step_append_src (by rfl) _ _ (by rfl) Try.underlying27 hi0 hz0 hz1 hz2 rfl (by omega) (by rfl) (World.ownsRow_nil _ _ _ _) (by rfl) (HS1.out _ FD.out.own.kp) HONE1.out (by unfold maxLen; omega) (by omega) (Nat.zero_le _) ?_; intro v1 wa hown hgrow hat; have ka : Kp No _ wa := (Kp.grown hgrow).mono (fun x _ h => by simp [Value.ownBlock] at h); replace FD := Lib.hid (FD.out.no ka); replace S0 := Lib.hid (ALL.out _ _ _ FD.out).1; have SA : Hid (SrcAt wa v1 1 l1.length (l1.map intV)) := Lib.hid (SrcAt.of_row (base := 0) (e := 3) (by simpa using hown)); clear hown hgrow hat ka) | (refine step_append_src (by rfl) _ _ (by rfl) Try.underlying27 hi0 hz0 hz1 hz2 rfl (by omega) (by rfl) (World.ownsRow_nil _ _ _ _) (by rfl) (HS2.out _ FD.out.own.kp) HONE2.out (by unfold maxLen; omega) (by omega) (Nat.zero_le _) ?_; intro v2 wa hown hgrow hat; have ka : Kp No _ wa := (Kp.grown hgrow).mono (fun x _ h => by simp [Value.ownBlock] at h); replace FD := Lib.hid (FD.out.no ka); replace S0 := Lib.hid (ALL.out _ _ _ FD.out).1; replace SA := Lib.hid (SA.out.no ka); have SB : Hid (SrcAt wa v2 1 l2.length (l2.map intV)) := Lib.hid (SrcAt.of_row (base := 0) (e := 3) (by simpa using hown)); clear hown hgrow hat ka) | (go_at_call 22; first | (have CA := CN.out _ _ _ _ _ f F FD.out.own.rep QD.out (by omega) (by repeat (first | exact List.Mem.head _ | apply List.Mem.tail)) _ _ SA.out SB.out; (with_reducible refine CA.mono ?_); clear CA; rintro e wa ⟨x0, Ma, ha, qa, _⟩; obtain ⟨rfl, La, fa⟩ := FD.out.step ha; replace FD := Lib.hid fa; replace QD := Lib.hid qa; replace S0 := Lib.hid (ALL.out _ _ _ FD.out).1; clear ha qa fa)))
      all_goals
        have U0 := Lib.hid (QD.out.rd (f := f) (F := F) (by repeat (first | exact List.Mem.head _ | apply List.Mem.tail))).upto
        have UX := Lib.hid (QD.out.rd (f := x0) (F := rnF (rnT n fr tg) F) (by repeat (first | exact List.Mem.head _ | apply List.Mem.tail))).upto
        clear SA SB S0 CN HONE1 HONE2 hi0 hz0 hz1 hz2
        go_wp2_with fail
        refine (VB1.out _ FD.out.own.kp).mono ?_
        rintro e w' ⟨rfl, rfl⟩
        go_wp2_with fail
        refine (VB2.out _ FD.out.own.kp).mono ?_
        rintro e w' ⟨rfl, rfl⟩
        go_wp2_with fail
        refine (DI1.out _ FD.out.own.kp).mono ?_
        rintro e wd ⟨rfl, m, hm⟩
        have KD : Hid (Kp No _ wd) := Lib.hid (by rw [hm]; exact Kp.drewN m)
        clear hm
        replace FD := Lib.hid (FD.out.no KD.out)
        have S0 := Lib.hid (ALL.out _ _ _ FD.out).1
        obtain ⟨cl1, cl2⟩ := S0.out
        have RF := Lib.hid (RFN.out _ _ FD.out.own.kp (ALL.out _ _ _ FD.out).2 U0.out)
        clear S0
        go_wp2_with fail
        refine RF.out.mono ?_
        rintro e we ⟨tv3, rfl, tt, ka⟩
        clear cl1 cl2
        replace FD := Lib.hid (FD.out.no ka)
        have AG := Lib.hid (Agrees_ok x0 hn6 FD.out.own.rep (QD.out.at (f := x0) (F := rnF (rnT n fr tg) F) (by repeat (first | exact List.Mem.head _ | apply List.Mem.tail))).1 (QD.out.at (f := x0) (F := rnF (rnT n fr tg) F) (by repeat (first | exact List.Mem.head _ | apply List.Mem.tail))).2 UX.out tt)
        obtain ⟨g3, c3, rfl, _⟩ := tt.form
        clear tt ka
        go_wp2_with fail
        refine AG.out.mono ?_
        rintro e wf ⟨rfl, ka⟩
        have KF := Lib.hid (FD.out.own.kp.trans_no ka)
        clear FD QD AG ALL ka
        go_wp2_with fail
        go_ret
        exact ⟨by simp, KF.out⟩
    · have HB := Lib.hid hgood
      clear hgood
      go_region_held3 (fun y => y.cell? ⟨gf, ia, none⟩ = some (.int .i64 f) ∧ y.cell? ⟨gt, ia, none⟩ = some ta) (exact S0.out) (first | (refine step_append_src (by rfl) _ _ (by rfl) Try.underlying27 hi0 hz0 hz1 hz2 rfl (by omega) (by rfl) (World.ownsRow_nil _ _ _ _) (by rfl) (HS1.out _ FD.out.own.kp) HONE1.out (by unfold maxLen; omega) (by omega) (Nat.zero_le _) ?_; intro v1 wa hown hgrow hat; have ka : Kp No _ wa := (Kp.grown hgrow).mono (fun x _ h => by simp [Value.ownBlock] at h); replace FD := Lib.hid (FD.out.no ka); replace S0 := Lib.hid (ALL.out _ _ _ FD.out).1; have SA : Hid (SrcAt wa v1 1 l1.length (l1.map intV)) := Lib.hid (SrcAt.of_row (base := 0) (e := 3) (by simpa using hown)); clear hown hgrow hat ka) | (refine step_append_src (by rfl) _ _ (by rfl) Try.underlying27 hi0 hz0 hz1 hz2 rfl (by omega) (by rfl) (World.ownsRow_nil _ _ _ _) (by rfl) (HS2.out _ FD.out.own.kp) HONE2.out (by unfold maxLen; omega) (by omega) (Nat.zero_le _) ?_; intro v2 wa hown hgrow hat; have ka : Kp No _ wa := (Kp.grown hgrow).mono (fun x _ h => by simp [Value.ownBlock] at h); replace FD := Lib.hid (FD.out.no ka); replace S0 := Lib.hid (ALL.out _ _ _ FD.out).1; replace SA := Lib.hid (SA.out.no ka); have SB : Hid (SrcAt wa v2 1 l2.length (l2.map intV)) := Lib.hid (SrcAt.of_row (base := 0) (e := 3) (by simpa using hown)); clear hown hgrow hat ka) | (go_at_call 22; first | (have CA := Rename_bad hn6 FD.out.own.rep QD.out (QD.out.at (f := f) (F := F) (by repeat (first | exact List.Mem.head _ | apply List.Mem.tail))).1 l1 l2 (by omega) (by omega) SA.out SB.out HB.out; (with_reducible refine CA.mono ?_); clear CA; rintro e wa ⟨rfl, ka⟩; replace FD := Lib.hid (FD.out.no ka); replace S0 := Lib.hid (ALL.out _ _ _ FD.out).1; clear ka)))
      all_goals
        have KF := Lib.hid FD.out.own.kp
        clear FD QD SA SB S0 HONE1 HONE2 hi0 hz0 hz1 hz2 ALL
        by_cases hlen : l1.length = l2.length
        · have hleni : (l1.length : Int) = (l2.length : Int) := by omega
          have e3 : ((l1.length : Int) != (l2.length : Int)) = false := by simp [hleni]
          have e4 : ((l1.length : Int) == (l2.length : Int)) = true := by simp [hleni]
          have HLEN := Lib.hid hlen
          clear hlen hleni
          go_wp2_with fail
          refine (VB1.out _ KF.out).mono ?_
          rintro e w' ⟨rfl, rfl⟩
          cases hv1 : varsB n l1
          · go_wp2_with fail
            go_ret
            exact ⟨by simp, KF.out⟩
          · have HV1 := Lib.hid hv1
            clear hv1
            go_wp2_with fail
            refine (VB2.out _ KF.out).mono ?_
            rintro e w' ⟨rfl, rfl⟩
            cases hv2 : varsB n l2
            · go_wp2_with fail
              go_ret
              exact ⟨by simp, KF.out⟩
            · have hdis : distB l1 = false := by
                cases h : distB l1
                · rfl
                · exact (HB.out ⟨HLEN.out, HV1.out, hv2, h⟩).elim
              rw [hdis] at DI1
              clear hv2 hdis
              go_wp2_with fail
              refine (DI1.out _ KF.out).mono ?_
              rintro e wd ⟨rfl, m, hm⟩
              have KD : Hid (Kp No w wd) := Lib.hid (by rw [hm]; exact KF.out.trans_no (Kp.drewN m))
              clear hm
              go_wp2_with fail
              go_ret
              exact ⟨by simp, KD.out⟩
        · have hleni : ¬ (l1.length : Int) = (l2.length : Int) := by omega
          have e3 : ((l1.length : Int) != (l2.length : Int)) = true := by simp [hleni]
          have e4 : ((l1.length : Int) == (l2.length : Int)) = false := by simp [hleni]
          clear hlen hleni
          go_wp2_with fail
          go_ret
          exact ⟨by simp, KF.out⟩
  · have hl : (30 : Int) < l.length := by omega
    go_enter Try.func9, Try.ntmps9
    go_wp2_with fail
    refine (qawake_ok w).mono ?_
    rintro e w0 ⟨rfl, k0⟩
    have K0 := Lib.hid k0
    clear k0
    go_wp2_with fail
    go_ret
    exact ⟨rfl, K0.out⟩

end Go.Proofs.Ytohinonkfhkclaa
