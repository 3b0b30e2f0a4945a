/-
  Walks: the law QuantTables.
-/
import Derived.Test.YtohinonkfhkclaaQu
import Derived.Deep.CutBlock
namespace Go.Proofs.Ytohinonkfhkclaa
open Go.RowKit

set_option maxRecDepth 1000000 in
set_option maxHeartbeats 16000000 in
theorem QuantTables_walk (x : Int) (l : List Stp) {sv : Value} {w : World} (hs : StepsAt w sv l) (i1 i2 : Int) (ls : List Int) {wv : Value} (hls : IntsAt w wv ls) :
    Calls Try.prog 10 #[.int .i64 x, sv, .int .i64 i1, .int .i64 i2, wv] w fun e w' => e = .returned (.bool true) ∧ Kp No w w' := by
  obtain ⟨hn1, hn6⟩ := nv_le x
  have VA := Lib.hid (fun w => Vars_ok x w)
  generalize nv x = n at *
  have NEW := Lib.hid (fun (w0 : World) (k0 : Kp No w w0) => New_own (n := n) (by omega) k0)
  have ST := Lib.hid hs
  obtain ⟨ao, c, rfl, _⟩ := hs
  have HSW := Lib.hid (SrcAt.of_intsAt hls)
  have HLM := Lib.hid (IntsAt.lenMax hls)
  obtain ⟨aw, cw, rfl, _, _⟩ := hls
  by_cases hlong : 12 < ls.length
  · have hlongi : (12 : Int) < ls.length := by omega
    by_cases h30 : 30 < l.length
    · have h30i : (30 : Int) < l.length := by omega
      go_enter Try.func10, Try.ntmps10
      go_wp2_with fail
      refine (qawake_ok w).mono ?_
      rintro e w0 ⟨rfl, k0⟩
      have K0 := Lib.hid k0
      clear k0
      go_wp2_with fail
      go_ret
      exact ⟨rfl, K0.out⟩
    · have h30i : ¬ (30 : Int) < l.length := by omega
      go_enter Try.func10, Try.ntmps10
      go_wp2_with fail
      refine (qawake_ok w).mono ?_
      rintro e w0 ⟨rfl, k0⟩
      have K0 := Lib.hid k0
      clear k0
      go_wp2_with fail
      go_ret
      exact ⟨rfl, K0.out⟩
  have hlongi : ¬ (12 : Int) < ls.length := by omega
  by_cases h40 : l.length ≤ 30
  · have hl : ¬ (30 : Int) < l.length := by omega
    go_enter Try.func10, Try.ntmps10
    go_wp2_with fail
    refine (qawake_ok w).mono ?_
    rintro e w0 ⟨rfl, k0⟩
    have K0 := Lib.hid k0
    clear k0
    go_wp2_with fail
    refine (VA.out w0).mono ?_
    rintro e w0' ⟨rfl, rfl⟩
    go_wp2_with fail
    refine (NEW.out w0 K0.out).mono ?_
    rintro e w1 ⟨p, L1, rfl, s1, k1⟩
    have S1 := Lib.hid s1
    clear s1 k1 NEW
    go_wp2_with fail
    refine (Run_own hn6 hn1 S1.out (by omega) ST.out).mono ?_
    rintro e w2 ⟨fv, tv, L2, tvs, rfl, fr⟩
    obtain ⟨rp, hFl⟩ := run_rp hn1 hn6 l (by omega)
    have pl := run_plain hn1 hn6 l
    generalize runM (Mgr.new n) n l = X at *
    generalize runF n l = Fs at *
    obtain ⟨M, fs⟩ := X
    simp only at fr rp pl
    have hpos := rp.pos
    have hfl : fs.length ≤ 100 := by rw [← fr.flen]; omega
    obtain ⟨gf, cf, gt, ct, rfl, rfl, lf, lt⟩ := fr.forms (by omega)
    have FR := Lib.hid fr
    have RPH := Lib.hid rp
    have PLH := Lib.hid pl
    clear fr rp hFl pl
    have h1 := pick_lt i1 (n := fs.length) (by omega)
    have h2 := pick_lt i2 (n := fs.length) (by omega)
    have P1 := Lib.hid (fun (z : World) => Pick_ok i1 fs.length z (by omega) (by omega))
    have P2 := Lib.hid (fun (z : World) => Pick_ok i2 fs.length z (by omega) (by omega))
    have ALL : Hid (∀ y M' L', Front w p n y M' L' (.slice (some ⟨gf, 0, none⟩) fs.length cf) (.slice (some ⟨gt, 0, none⟩) fs.length ct) fs Fs tvs → y.cell? ⟨gf, pick i1 fs.length, none⟩ = some (.int .i64 (fs.getD (pick i1 fs.length) 0)) ∧ y.cell? ⟨gf, pick i2 fs.length, none⟩ = some (.int .i64 (fs.getD (pick i2 fs.length) 0)) ∧ y.cell? ⟨gt, pick i1 fs.length, none⟩ = some (tvs.getD (pick i1 fs.length) (.bool false)) ∧ y.cell? ⟨gt, pick i2 fs.length, none⟩ = some (tvs.getD (pick i2 fs.length) (.bool false)) ∧ Tb w.heap.size y (tvs.getD (pick i1 fs.length) (.bool false)) (tab n (Fs.getD (pick i1 fs.length) (fun _ => false))) ∧ Tb w.heap.size y (tvs.getD (pick i2 fs.length) (.bool false)) (tab n (Fs.getD (pick i2 fs.length) (fun _ => false)))) := Lib.hid (fun y M' L' j => ⟨j.cellF h1, j.cellF h2, j.cellT h1, j.cellT h2, (j.tabAt h1).1, (j.tabAt h2).1⟩)
    have BK0 := Lib.hid ((Qk.of_rp RPH.out PLH.out).sub (B' := [(fs.getD (pick i1 fs.length) 0, Fs.getD (pick i1 fs.length) (fun _ => false)), (fs.getD (pick i2 fs.length) 0, Fs.getD (pick i2 fs.length) (fun _ => false))]) (fun x hx => by
      have e := FR.out.flen
      rcases List.mem_cons.1 hx with rfl | hx
      · exact mem_zipQ h1 e
      · rw [List.mem_singleton.1 hx]; exact mem_zipQ h2 e))
    have lai : (pick i1 fs.length : Int) < fs.length := by omega
    have lbi : (pick i2 fs.length : Int) < fs.length := by omega
    generalize fs.getD (pick i1 fs.length) 0 = f at *
    generalize fs.getD (pick i2 fs.length) 0 = g at *
    generalize Fs.getD (pick i1 fs.length) (fun _ => false) = F at *
    generalize Fs.getD (pick i2 fs.length) (fun _ => false) = G at *
    generalize tvs.getD (pick i1 fs.length) (.bool false) = ta at *
    generalize tvs.getD (pick i2 fs.length) (.bool false) = tb at *
    generalize pick i1 fs.length = ia at *
    generalize pick i2 fs.length = ib at *
    clear RPH PLH h1 h2 hpos hfl lf lt S1 ST VA K0
    obtain ⟨i0, hi0, hz0, hz1, hz2⟩ := info_parts info_int
    have HONE : Hid (∀ u ∈ ls.map intV, u.oneCell' = true) := Lib.hid (fun u hu => by obtain ⟨b, _, rfl⟩ := List.mem_map.1 hu; rfl)
    have SRC := Lib.hid (HSW.out.no FR.out.own.kp)
    have hlm := HLM.out
    unfold maxLen at hlm
    go_wp2_with fail
    refine (P1.out _).mono ?_
    rintro e w' ⟨rfl, rfl⟩
    go_wp2_with fail
    refine (P2.out _).mono ?_
    rintro e w' ⟨rfl, rfl⟩
    clear P1 P2
    go_upto_region 12 with (at_builtin; refine wpList_append_src rfl _ _ rfl (base := w2.heap.size) (v := .slice none 0 0) Try.underlying27 hi0 hz0 hz1 hz2 rfl (by omega) rfl (World.ownsRow_nil _ _ _ _) rfl SRC.out HONE.out (by unfold maxLen; omega) (by omega) (Nat.le_refl _) ?_; intro v3 w3 hown3 hgrow3 hat3)
    have ku3 : Kp No w2 w3 := (Kp.grown hgrow3).mono (fun x _ h => by simp [Value.ownBlock] at h)
    have row3 : w3.ownsRow w2.heap.size 3 1 v3 ls.length (ls.map intV) := by simpa using hown3
    obtain ⟨a3, c3, rfl⟩ := rowForm row3
    have FL := Lib.hid (FrL.mk (FR.out.no ku3) (ownsRow_mono row3 FR.out.own.kp.size) (fun k hk hA => by
      have h1 := (row3.lt k hk).1
      have h2 := FR.out.own.rep.lt k hA
      omega))
    clear ku3 row3 hown3 hgrow3 hat3 SRC HONE hlm FR hi0 hz0 hz1 hz2
    have F0 := Lib.hid (FL.out.no Kp.drew)
    have VB := Lib.hid (fun (y : World) (k : Kp No w y) => RVariables_ok n ls (by omega) (HSW.out.no k))
    clear FL
    cases hvb : varsB n ls
    · rw [hvb] at VB
      have FD := Lib.hid F0.out
      have QD := Lib.hid BK0.out
      have SX : Hid (∀ y M' L', FrL w p n y M' L' (.slice (some ⟨gf, 0, none⟩) fs.length cf) (.slice (some ⟨gt, 0, none⟩) fs.length ct) fs Fs tvs (.slice a3 ls.length c3) ls.length (ls.map intV) → y.cell? ⟨gf, ia, none⟩ = some (.int .i64 f) ∧ y.cell? ⟨gf, ib, none⟩ = some (.int .i64 g)) := Lib.hid (fun y M' L' j => ⟨(ALL.out y M' L' j.fr).1, (ALL.out y M' L' j.fr).2.1⟩)
      have S0 := Lib.hid (SX.out _ _ _ FD.out)
      clear F0 BK0
      go_region_held3 (fun y => y.cell? ⟨gf, ia, none⟩ = some (.int .i64 f) ∧ y.cell? ⟨gf, ib, none⟩ = some (.int .i64 g)) (exact S0.out) (first | (go_at_call 24; first | (have CA := Exists_bad FD.out.fr.own.rep QD.out.wf (QD.out.at (f := f) (F := F) (by repeat (first | exact List.Mem.head _ | apply List.Mem.tail))).1 ls (by omega) (by rw [QD.out.nn]; exact hvb) FD.out.src; (with_reducible refine CA.mono ?_); clear CA; rintro e wa ⟨rfl, rfl⟩)) | (go_at_call 25; first | (have CA := ForAll_bad hn6 FD.out.fr.own.rep QD.out (by omega) (f := f) (F := F) (by repeat (first | exact List.Mem.head _ | apply List.Mem.tail)) ls (by omega) hvb FD.out.src FD.out.offS; (with_reducible refine CA.mono ?_); clear CA; rintro e wa ⟨Ma, ha, qa⟩; obtain ⟨rfl, La, fa⟩ := FD.out.step ha; replace FD := Lib.hid fa; replace QD := Lib.hid qa; replace S0 := Lib.hid (SX.out _ _ _ FD.out); clear ha qa fa)) | (go_at_call 21; first | (have CA := AndEx_bad FD.out.fr.own.rep (QD.out.at (f := f) (F := F) (by repeat (first | exact List.Mem.head _ | apply List.Mem.tail))).1 (QD.out.at (f := g) (F := G) (by repeat (first | exact List.Mem.head _ | apply List.Mem.tail))).1 ls (by omega) (by rw [QD.out.nn]; exact hvb) FD.out.src; (with_reducible refine CA.mono ?_); clear CA; rintro e wa ⟨rfl, rfl⟩)))
      all_goals
        replace FD := Lib.hid (FD.out.no Kp.drew)
        replace SX : Hid (∀ y M' L', FrL w p n y M' L' (.slice (some ⟨gf, 0, none⟩) fs.length cf) (.slice (some ⟨gt, 0, none⟩) fs.length ct) fs Fs tvs (.slice a3 ls.length c3) ls.length (ls.map intV) → y.cell? ⟨gf, ia, none⟩ = some (.int .i64 f) ∧ y.cell? ⟨gf, ib, none⟩ = some (.int .i64 g) ∧ y.cell? ⟨gt, ia, none⟩ = some ta ∧ y.cell? ⟨gt, ib, none⟩ = some tb) := Lib.hid (fun y M' L' j => ⟨(ALL.out y M' L' j.fr).1, (ALL.out y M' L' j.fr).2.1, (ALL.out y M' L' j.fr).2.2.1, (ALL.out y M' L' j.fr).2.2.2.1⟩)
        have S0 := Lib.hid (SX.out _ _ _ FD.out)
        obtain ⟨xi, hxi⟩ : ∃ xi, eqT n (fun a => F a || G a) G = xi := ⟨_, rfl⟩
        have XI : Hid (xi = true ↔ ∀ a, F a = true → G a = true) := Lib.hid (by rw [← hxi]; exact imp_eqT (QD.out.rd (f := f) (F := F) (by repeat (first | exact List.Mem.head _ | apply List.Mem.tail))).upto (QD.out.rd (f := g) (F := G) (by repeat (first | exact List.Mem.head _ | apply List.Mem.tail))).upto)
        have HXI := Lib.hid hxi
        clear hxi
        have hxx : (xi != xi) = false := by simp
        go_upto_region 13 with fail
        go_region_held3 (fun y => y.cell? ⟨gf, ia, none⟩ = some (.int .i64 f) ∧ y.cell? ⟨gf, ib, none⟩ = some (.int .i64 g) ∧ y.cell? ⟨gt, ia, none⟩ = some ta ∧ y.cell? ⟨gt, ib, none⟩ = some tb) (exact S0.out) (first | (go_at_call 26; first | (have CA := ImpliesS hn6 FD.out.fr.own.rep QD.out (by omega) (f := f) (F := F) (g := g) (G := G) (by repeat (first | exact List.Mem.head _ | apply List.Mem.tail)) (by repeat (first | exact List.Mem.head _ | apply List.Mem.tail)) xi XI.out; (with_reducible refine CA.mono ?_); clear CA; rintro e wa ⟨Ma, ha, qa⟩; obtain ⟨rfl, La, fa⟩ := FD.out.step ha; replace FD := Lib.hid fa; replace QD := Lib.hid qa; replace S0 := Lib.hid (SX.out _ _ _ FD.out); clear ha qa fa)) | (go_at_call 38; first | (have CA := (by have h := RImplies_ok hn6 (ALL.out _ _ _ FD.out.fr).2.2.2.2.1 (ALL.out _ _ _ FD.out.fr).2.2.2.2.2; rw [HXI.out] at h; exact h); (with_reducible refine CA.mono ?_); clear CA; rintro e wa ⟨rfl, ka⟩; replace FD := Lib.hid (FD.out.no ka); replace S0 := Lib.hid (SX.out _ _ _ FD.out); clear ka)))
        have KV := Lib.hid FD.out.fr.own.kp
        clear FD QD S0 SX ALL
        go_wp2_with fail
        refine (VB.out _ KV.out).mono ?_
        rintro e w' ⟨rfl, rfl⟩
        go_wp2_with fail
        go_ret
        exact ⟨by simp, KV.out⟩
    · rw [hvb] at VB
      obtain ⟨ms, hls2, hms⟩ := varsB_nat hvb
      have FD := Lib.hid F0.out
      have QD := Lib.hid BK0.out
      have SX : Hid (∀ y M' L', FrL w p n y M' L' (.slice (some ⟨gf, 0, none⟩) fs.length cf) (.slice (some ⟨gt, 0, none⟩) fs.length ct) fs Fs tvs (.slice a3 ls.length c3) ls.length (ls.map intV) → y.cell? ⟨gf, ia, none⟩ = some (.int .i64 f) ∧ y.cell? ⟨gf, ib, none⟩ = some (.int .i64 g)) := Lib.hid (fun y M' L' j => ⟨(ALL.out y M' L' j.fr).1, (ALL.out y M' L' j.fr).2.1⟩)
      have S0 := Lib.hid (SX.out _ _ _ FD.out)
      have hml : ms.length ≤ 1000000 := by have h := congrArg List.length hls2; rw [List.length_map] at h; omega
      have SW : Hid (∀ (y : World), Kp No w y → SrcAt y (.slice aw ls.length cw) 1 ms.length (ms.map natV)) := Lib.hid (fun y k => by have h := HSW.out.no k; revert h; generalize (Value.slice aw ls.length cw) = q; intro h; rw [hls2] at h; exact h.nats)
      have SN : Hid (∀ y M' L', FrL w p n y M' L' (.slice (some ⟨gf, 0, none⟩) fs.length cf) (.slice (some ⟨gt, 0, none⟩) fs.length ct) fs Fs tvs (.slice a3 ls.length c3) ls.length (ls.map intV) → SrcAt y (.slice a3 ls.length c3) 1 ms.length (ms.map natV)) := Lib.hid (fun y M' L' j => by have h := j.src; revert h; generalize (Value.slice a3 ls.length c3) = q; intro h; rw [hls2] at h; exact h.nats)
      clear F0 BK0 HSW HLM hls2
      go_region_held3 (fun y => y.cell? ⟨gf, ia, none⟩ = some (.int .i64 f) ∧ y.cell? ⟨gf, ib, none⟩ = some (.int .i64 g)) (exact S0.out) (first | (go_at_call 24; first | (have CA := ExistsS hn6 FD.out.fr.own.rep QD.out (by omega) (f := f) (F := F) (by repeat (first | exact List.Mem.head _ | apply List.Mem.tail)) ms hml hms (SN.out _ _ _ FD.out); (with_reducible refine CA.mono ?_); clear CA; rintro e wa ⟨x0, Ma, ha, qa, _⟩; obtain ⟨rfl, La, fa⟩ := FD.out.step ha; replace FD := Lib.hid fa; replace QD := Lib.hid qa; replace S0 := Lib.hid (SX.out _ _ _ FD.out); clear ha qa fa)) | (go_at_call 25; first | (have CA := ForAllS hn6 FD.out.fr.own.rep QD.out (by omega) (f := f) (F := F) (by repeat (first | exact List.Mem.head _ | apply List.Mem.tail)) ms hml hms (SN.out _ _ _ FD.out) FD.out.offS; (with_reducible refine CA.mono ?_); clear CA; rintro e wa ⟨y0, Ma, ha, qa, _⟩; obtain ⟨rfl, La, fa⟩ := FD.out.step ha; replace FD := Lib.hid fa; replace QD := Lib.hid qa; replace S0 := Lib.hid (SX.out _ _ _ FD.out); clear ha qa fa)) | (go_at_call 21; first | (have CA := AndExS hn6 FD.out.fr.own.rep QD.out (by omega) (f := f) (F := F) (g := g) (G := G) (by repeat (first | exact List.Mem.head _ | apply List.Mem.tail)) (by repeat (first | exact List.Mem.head _ | apply List.Mem.tail)) ms hml hms (SN.out _ _ _ FD.out); (with_reducible refine CA.mono ?_); clear CA; rintro e wa ⟨z0, Ma, ha, qa, _⟩; obtain ⟨rfl, La, fa⟩ := FD.out.step ha; replace FD := Lib.hid fa; replace QD := Lib.hid qa; replace S0 := Lib.hid (SX.out _ _ _ FD.out); clear ha qa fa)))
      all_goals
        replace FD := Lib.hid (FD.out.no Kp.drew)
        replace SX : Hid (∀ y M' L', FrL w p n y M' L' (.slice (some ⟨gf, 0, none⟩) fs.length cf) (.slice (some ⟨gt, 0, none⟩) fs.length ct) fs Fs tvs (.slice a3 ls.length c3) ls.length (ls.map intV) → y.cell? ⟨gf, ia, none⟩ = some (.int .i64 f) ∧ y.cell? ⟨gf, ib, none⟩ = some (.int .i64 g) ∧ y.cell? ⟨gt, ia, none⟩ = some ta ∧ y.cell? ⟨gt, ib, none⟩ = some tb) := Lib.hid (fun y M' L' j => ⟨(ALL.out y M' L' j.fr).1, (ALL.out y M' L' j.fr).2.1, (ALL.out y M' L' j.fr).2.2.1, (ALL.out y M' L' j.fr).2.2.2.1⟩)
        have S0 := Lib.hid (SX.out _ _ _ FD.out)
        obtain ⟨xi, hxi⟩ : ∃ xi, eqT n (fun a => F a || G a) G = xi := ⟨_, rfl⟩
        have XI : Hid (xi = true ↔ ∀ a, F a = true → G a = true) := Lib.hid (by rw [← hxi]; exact imp_eqT (QD.out.rd (f := f) (F := F) (by repeat (first | exact List.Mem.head _ | apply List.Mem.tail))).upto (QD.out.rd (f := g) (F := G) (by repeat (first | exact List.Mem.head _ | apply List.Mem.tail))).upto)
        have HXI := Lib.hid hxi
        clear hxi
        have hxx : (xi != xi) = false := by simp
        go_upto_region 13 with fail
        go_region_held3 (fun y => y.cell? ⟨gf, ia, none⟩ = some (.int .i64 f) ∧ y.cell? ⟨gf, ib, none⟩ = some (.int .i64 g) ∧ y.cell? ⟨gt, ia, none⟩ = some ta ∧ y.cell? ⟨gt, ib, none⟩ = some tb) (exact S0.out) (first | (go_at_call 26; first | (have CA := ImpliesS hn6 FD.out.fr.own.rep QD.out (by omega) (f := f) (F := F) (g := g) (G := G) (by repeat (first | exact List.Mem.head _ | apply List.Mem.tail)) (by repeat (first | exact List.Mem.head _ | apply List.Mem.tail)) xi XI.out; (with_reducible refine CA.mono ?_); clear CA; rintro e wa ⟨Ma, ha, qa⟩; obtain ⟨rfl, La, fa⟩ := FD.out.step ha; replace FD := Lib.hid fa; replace QD := Lib.hid qa; replace S0 := Lib.hid (SX.out _ _ _ FD.out); clear ha qa fa)) | (go_at_call 38; first | (have CA := (by have h := RImplies_ok hn6 (ALL.out _ _ _ FD.out.fr).2.2.2.2.1 (ALL.out _ _ _ FD.out.fr).2.2.2.2.2; rw [HXI.out] at h; exact h); (with_reducible refine CA.mono ?_); clear CA; rintro e wa ⟨rfl, ka⟩; replace FD := Lib.hid (FD.out.no ka); replace S0 := Lib.hid (SX.out _ _ _ FD.out); clear ka)))
        go_wp2_with fail
        refine (VB.out _ FD.out.fr.own.kp).mono ?_
        rintro e w' ⟨rfl, rfl⟩
        have U0 := Lib.hid (QD.out.rd (f := f) (F := F) (by repeat (first | exact List.Mem.head _ | apply List.Mem.tail))).upto
        have U1 := Lib.hid (QD.out.rd (f := g) (F := G) (by repeat (first | exact List.Mem.head _ | apply List.Mem.tail))).upto
        have U2 : Hid (Upto n (fun a => F a && G a)) := Lib.hid (fun a b hab => by show (F a && G a) = (F b && G b); rw [U0.out a b hab, U1.out a b hab])
        have UX := Lib.hid (QD.out.rd (f := x0) (F := exQ ms F) (by repeat (first | exact List.Mem.head _ | apply List.Mem.tail))).upto
        have UY := Lib.hid (QD.out.rd (f := y0) (F := alQ ms F) (by repeat (first | exact List.Mem.head _ | apply List.Mem.tail))).upto
        have UZ := Lib.hid (QD.out.rd (f := z0) (F := exQ ms (fun a => F a && G a)) (by repeat (first | exact List.Mem.head _ | apply List.Mem.tail))).upto
        replace FD := Lib.hid (FD.out.no (Kp.drew (w := _)))
        replace SX : Hid (∀ y M' L', FrL w p n y M' L' (.slice (some ⟨gf, 0, none⟩) fs.length cf) (.slice (some ⟨gt, 0, none⟩) fs.length ct) fs Fs tvs (.slice a3 ls.length c3) ls.length (ls.map intV) → y.cell? ⟨gt, ia, none⟩ = some ta ∧ y.cell? ⟨gt, ib, none⟩ = some tb) := Lib.hid (fun y M' L' j => ⟨(ALL.out y M' L' j.fr).2.2.1, (ALL.out y M' L' j.fr).2.2.2.1⟩)
        replace S0 := Lib.hid (SX.out _ _ _ FD.out)
        go_upto_region 17 with fail
        go_region_held3 (fun y => y.cell? ⟨gt, ia, none⟩ = some ta ∧ y.cell? ⟨gt, ib, none⟩ = some tb) (exact S0.out) (first | (go_at_call 39; first | (have CA := RExists_ok hn6 ms hml hms U0.out (ALL.out _ _ _ FD.out.fr).2.2.2.2.1 (SW.out _ FD.out.fr.own.kp); (with_reducible refine CA.mono ?_); clear CA; rintro e wa ⟨tv3, rfl, tt, ka⟩; replace FD := Lib.hid (FD.out.no ka); have TT := Lib.hid tt; replace S0 := Lib.hid (SX.out _ _ _ FD.out); clear tt ka) | (have CA := RExists_ok hn6 ms hml hms U2.out TA.out (SW.out _ FD.out.fr.own.kp); (with_reducible refine CA.mono ?_); clear CA; rintro e wa ⟨tv3, rfl, tt, ka⟩; replace FD := Lib.hid (FD.out.no ka); have TT := Lib.hid tt; replace S0 := Lib.hid (SX.out _ _ _ FD.out); clear tt ka)) | (go_at_call 40; first | (have CA := RForAll_ok hn6 ms hml hms U0.out (ALL.out _ _ _ FD.out.fr).2.2.2.2.1 (SW.out _ FD.out.fr.own.kp); (with_reducible refine CA.mono ?_); clear CA; rintro e wa ⟨tv3, rfl, tt, ka⟩; replace FD := Lib.hid (FD.out.no ka); have TT := Lib.hid tt; replace S0 := Lib.hid (SX.out _ _ _ FD.out); clear tt ka)) | (go_at_call 41; first | (have CA := RAnd_ok hn6 (ALL.out _ _ _ FD.out.fr).2.2.2.2.1 (ALL.out _ _ _ FD.out.fr).2.2.2.2.2; (with_reducible refine CA.mono ?_); clear CA; rintro e wa ⟨tv3, rfl, tt, ka⟩; replace FD := Lib.hid (FD.out.no ka); have TA := Lib.hid tt; replace S0 := Lib.hid (SX.out _ _ _ FD.out); clear tt ka)) | (go_at_call 36; first | (have CA := Agrees_ok x0 hn6 FD.out.fr.own.rep (QD.out.at (f := x0) (F := exQ ms F) (by repeat (first | exact List.Mem.head _ | apply List.Mem.tail))).1 (QD.out.at (f := x0) (F := exQ ms F) (by repeat (first | exact List.Mem.head _ | apply List.Mem.tail))).2 UX.out TT.out; (with_reducible refine CA.mono ?_); clear CA; rintro e wa ⟨rfl, ka⟩; clear TT; replace FD := Lib.hid (FD.out.no ka); replace S0 := Lib.hid (SX.out _ _ _ FD.out); clear ka) | (have CA := Agrees_ok y0 hn6 FD.out.fr.own.rep (QD.out.at (f := y0) (F := alQ ms F) (by repeat (first | exact List.Mem.head _ | apply List.Mem.tail))).1 (QD.out.at (f := y0) (F := alQ ms F) (by repeat (first | exact List.Mem.head _ | apply List.Mem.tail))).2 UY.out TT.out; (with_reducible refine CA.mono ?_); clear CA; rintro e wa ⟨rfl, ka⟩; clear TT; replace FD := Lib.hid (FD.out.no ka); replace S0 := Lib.hid (SX.out _ _ _ FD.out); clear ka) | (have CA := Agrees_ok z0 hn6 FD.out.fr.own.rep (QD.out.at (f := z0) (F := exQ ms (fun a => F a && G a)) (by repeat (first | exact List.Mem.head _ | apply List.Mem.tail))).1 (QD.out.at (f := z0) (F := exQ ms (fun a => F a && G a)) (by repeat (first | exact List.Mem.head _ | apply List.Mem.tail))).2 UZ.out TT.out; (with_reducible refine CA.mono ?_); clear CA; rintro e wa ⟨rfl, ka⟩; clear TT; replace FD := Lib.hid (FD.out.no ka); replace S0 := Lib.hid (SX.out _ _ _ FD.out); clear ka)))
        all_goals
          have KF := Lib.hid FD.out.fr.own.kp
          clear FD QD S0 SX ALL
          go_wp2_with fail
          go_ret
          exact ⟨by simp, KF.out⟩
  · have hl : (30 : Int) < l.length := by omega
    go_enter Try.func10, Try.ntmps10
    go_wp2_with fail
    refine (qawake_ok w).mono ?_
    rintro e w0 ⟨rfl, k0⟩
    have K0 := Lib.hid k0
    clear k0
    go_wp2_with fail
    go_ret
    exact ⟨rfl, K0.out⟩

end Go.Proofs.Ytohinonkfhkclaa
