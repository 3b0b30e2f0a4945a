/-
  Walks: the law QuantCounts.
-/
import Derived.Test.YtngbodmooddjbaaQj
import Derived.Test.YtngbodmooddjbaaQu
import Derived.Deep.CutBlock
namespace Go.Proofs.Ytngbodmooddjbaa
open Go.RowKit

theorem intL_nats (l : List Nat) : (l.map Int.ofNat).map intV = l.map natV := by
  rw [List.map_map]; rfl
theorem SrcAt.ints {w : World} {v : Value} {l : List Nat} (h : SrcAt w v 1 l.length (l.map natV)) : SrcAt w v 1 (l.map Int.ofNat).length ((l.map Int.ofNat).map intV) := by
  rw [intL_nats, List.length_map]; exact h
theorem offN {w w' : World} {p : Nat} {L : Lay} {M : Mgr} {e m : Nat} {xs : List Value} {v : Value} (R : Rep w p M L) (h : w'.ownsRow w.heap.size e 1 v m xs) : ∀ g o k cc, v = .slice (some ⟨g, o, none⟩) k cc → ¬ L.at p g := fun g o k cc hv hA => by
  have h1 := (h.lt g (by rw [hv]; rfl)).1
  have h2 := R.lt g hA
  omega

set_option maxRecDepth 1000000 in
set_option maxHeartbeats 16000000 in
theorem QuantCounts_walk (x : Int) (l : List Stp) {sv : Value} {w : World} (hs : StepsAt w sv l) (i1 : Int) (l1 : List Int) {wv : Value} (hls : IntsAt w wv l1) :
    Calls Try.prog 4 #[.int .i64 x, sv, .int .i64 i1, wv] w fun e w' => e = .returned (.bool true) ∧ Kp No w w' := by
  obtain ⟨hn1, hn6⟩ := nv_le x
  have VA := Lib.hid (fun w => Vars_ok x w)
  generalize nv x = n at *
  have NEW := Lib.hid (fun (w0 : World) (k0 : Kp No w w0) => New_own (n := n) (by omega) k0)
  have ST := Lib.hid hs
  obtain ⟨ao, c, rfl, _⟩ := hs
  have HS1 := Lib.hid (fun (y : World) (k : Kp No w y) => (SrcAt.of_intsAt hls).no k)
  have hm1 := IntsAt.lenMax hls
  unfold maxLen at hm1
  obtain ⟨aw, cw, rfl, _, _⟩ := hls
  by_cases hlong0 : 12 < l1.length
  · have hlongi0 : (12 : Int) < l1.length := by omega
    by_cases h30 : 30 < l.length
    · have h30i : (30 : Int) < l.length := by omega
      go_enter Try.func4, Try.ntmps4
      go_wp2_with fail
      refine (qawake_ok w).mono ?_
      rintro e w0 ⟨rfl, k0⟩
      have K0 := Lib.hid k0
      clear k0
      go_wp2_with fail
      go_ret
      exact ⟨rfl, K0.out⟩
    · have h30i : ¬ (30 : Int) < l.length := by omega
      go_enter Try.func4, Try.ntmps4
      go_wp2_with fail
      refine (qawake_ok w).mono ?_
      rintro e w0 ⟨rfl, k0⟩
      have K0 := Lib.hid k0
      clear k0
      go_wp2_with fail
      go_ret
      exact ⟨rfl, K0.out⟩
  have hlongi0 : ¬ (12 : Int) < l1.length := by omega
  by_cases h40 : l.length ≤ 30
  · have hl : ¬ (30 : Int) < l.length := by omega
    go_enter Try.func4, Try.ntmps4
    go_wp2_with fail
    refine (qawake_ok w).mono ?_
    rintro e w0 ⟨rfl, k0⟩
    have K0 := Lib.hid k0
    clear k0
    go_wp2_with fail
    refine (VA.out w0).mono ?_
    rintro e w0' ⟨rfl, rfl⟩
    go_wp2_with fail
    refine (NEW.out w0 K0.out).mono ?_
    rintro e w1 ⟨p, L1, rfl, s1, k1⟩
    have S1 := Lib.hid s1
    clear s1 k1 NEW
    go_wp2_with fail
    refine (Run_own hn6 hn1 S1.out (by omega) ST.out).mono ?_
    rintro e w2 ⟨fv, tv, L2, tvs, rfl, fr⟩
    obtain ⟨rp, hFl⟩ := run_rp hn1 hn6 l (by omega)
    have pl := run_plain hn1 hn6 l
    generalize runM (Mgr.new n) n l = X at *
    generalize runF n l = Fs at *
    obtain ⟨M, fs⟩ := X
    simp only at fr rp pl
    have hpos := rp.pos
    have hfl : fs.length ≤ 100 := by rw [← fr.flen]; omega
    obtain ⟨gf, cf, gt, ct, rfl, rfl, lf, lt⟩ := fr.forms (by omega)
    have FR := Lib.hid fr
    have RPH := Lib.hid rp
    have PLH := Lib.hid pl
    clear fr rp hFl pl
    have h1 := pick_lt i1 (n := fs.length) (by omega)
    have P1 := Lib.hid (fun (z : World) => Pick_ok i1 fs.length z (by omega) (by omega))
    have ALL : Hid (∀ y M' L', Front w p n y M' L' (.slice (some ⟨gf, 0, none⟩) fs.length cf) (.slice (some ⟨gt, 0, none⟩) fs.length ct) fs Fs tvs → (y.cell? ⟨gf, pick i1 fs.length, none⟩ = some (.int .i64 (fs.getD (pick i1 fs.length) 0)) ∧ y.cell? ⟨gt, pick i1 fs.length, none⟩ = some (tvs.getD (pick i1 fs.length) (.bool false))) ∧ Tb w.heap.size y (tvs.getD (pick i1 fs.length) (.bool false)) (tab n (Fs.getD (pick i1 fs.length) (fun _ => false))) ∧ Off L' p (tvs.getD (pick i1 fs.length) (.bool false))) := Lib.hid (fun y M' L' j => ⟨⟨j.cellF h1, j.cellT h1⟩, j.tabAt h1⟩)
    have BK0 := Lib.hid ((Qk.of_rp RPH.out PLH.out).sub (B' := [(fs.getD (pick i1 fs.length) 0, Fs.getD (pick i1 fs.length) (fun _ => false))]) (fun x hx => by
      have e := FR.out.flen
      rw [List.mem_singleton.1 hx]; exact mem_zipQ h1 e))
    have lai : (pick i1 fs.length : Int) < fs.length := by omega
    generalize fs.getD (pick i1 fs.length) 0 = f at *
    generalize Fs.getD (pick i1 fs.length) (fun _ => false) = F at *
    generalize tvs.getD (pick i1 fs.length) (.bool false) = ta at *
    generalize pick i1 fs.length = ia at *
    clear RPH PLH h1 hpos hfl lf lt S1 ST VA K0
    obtain ⟨i0, hi0, hz0, hz1, hz2⟩ := info_parts info_int
    have HONE1 : Hid (∀ u ∈ l1.map intV, u.oneCell' = true) := Lib.hid (fun u hu => by obtain ⟨b, _, rfl⟩ := List.mem_map.1 hu; rfl)
    go_wp2_with fail
    refine (P1.out _).mono ?_
    rintro e w' ⟨rfl, rfl⟩
    clear P1
    have FD := Lib.hid (FR.out.no Kp.drew)
    have QD := Lib.hid BK0.out
    have S0 := Lib.hid (ALL.out _ _ _ FD.out).1
    clear FR BK0
    go_upto_region 11 with fail
    go_region_held3 (fun y => y.cell? ⟨gf, ia, none⟩ = some (.int .i64 f) ∧ y.cell? ⟨gt, ia, none⟩ = some ta) (exact S0.out) (first | (refine step_append_src (by rfl) _ _ (by rfl) Try.underlying33 hi0 hz0 hz1 hz2 rfl (by omega) (by rfl) (World.ownsRow_nil _ _ _ _) (by rfl) (HS1.out _ FD.out.own.kp) HONE1.out (by unfold maxLen; omega) (by omega) (Nat.le_refl _) ?_; intro v1 wa hown hgrow hat; have ka : Kp No _ wa := (Kp.grown hgrow).mono (fun x _ h => by simp [Value.ownBlock] at h); simp only [Nat.zero_add, List.nil_append] at hown; have OS := Lib.hid (offN FD.out.own.rep hown); have SS := Lib.hid (SrcAt.of_row hown); replace FD := Lib.hid (FD.out.no ka); replace S0 := Lib.hid (ALL.out _ _ _ FD.out).1; clear hown hgrow hat ka) | (go_at_call 22; first | ((with_reducible refine (Identity_ok n hn6 _).mono ?_); rintro e wa ⟨v1, rfl, hown, ka⟩; have OS := Lib.hid (offN FD.out.own.rep hown); have SS := Lib.hid (SrcAt.ints (SrcAt.of_row hown)); replace FD := Lib.hid (FD.out.no ka); replace S0 := Lib.hid (ALL.out _ _ _ FD.out).1; clear hown ka)) | (go_at_call 23; first | (have CA := Support_ok f FD.out.own.rep (by rw [QD.out.nn]; omega); (with_reducible refine CA.mono ?_); clear CA; rintro e wa ⟨v1, rfl, hown, ka⟩; have OS := Lib.hid (offN FD.out.own.rep hown); have SS := Lib.hid (SrcAt.ints (SrcAt.of_row hown)); replace FD := Lib.hid (FD.out.no ka); replace S0 := Lib.hid (ALL.out _ _ _ FD.out).1; clear hown ka)) | (go_at_call 21; first | (have CA := counted_ok hn6 (by omega) FD.out.own.rep QD.out (by omega) (f := f) (F := F) (by repeat (first | exact List.Mem.head _ | apply List.Mem.tail)) (ALL.out _ _ _ FD.out).2.1 (ALL.out _ _ _ FD.out).2.2 _ (by first | omega | (rw [List.length_map, List.length_range]; omega) | (rw [List.length_map]; refine Nat.le_trans (Mgr.supM_len _ _) ?_; rw [QD.out.nn]; omega)) SS.out OS.out; (with_reducible refine CA.mono ?_); clear CA; rintro e wa ⟨Ma, ha, qa⟩; obtain ⟨rfl, La, fa⟩ := FD.out.step ha; replace FD := Lib.hid fa; replace QD := Lib.hid qa; replace S0 := Lib.hid (ALL.out _ _ _ FD.out).1; clear ha qa fa SS OS)))
    all_goals
      have KF := Lib.hid FD.out.own.kp
      clear FD QD S0 ALL
      go_wp2_with fail
      go_ret
      exact ⟨by simp, KF.out⟩
  · have hl : (30 : Int) < l.length := by omega
    go_enter Try.func4, Try.ntmps4
    go_wp2_with fail
    refine (qawake_ok w).mono ?_
    rintro e w0 ⟨rfl, k0⟩
    have K0 := Lib.hid k0
    clear k0
    go_wp2_with fail
    go_ret
    exact ⟨rfl, K0.out⟩

end Go.Proofs.Ytngbodmooddjbaa
