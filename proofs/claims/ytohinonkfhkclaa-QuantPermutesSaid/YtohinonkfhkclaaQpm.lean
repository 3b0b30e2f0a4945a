/-
  Walks: the law QuantPermutes.
-/
import Derived.Test.YtohinonkfhkclaaQr
import Derived.Test.YtohinonkfhkclaaRefT
import Derived.Deep.RegionHeld3
import Derived.Deep.CutBlock
namespace Go.Proofs.Ytohinonkfhkclaa
open Go.RowKit

/-! ### plain -/
/-- What the table of a renaming holds. -/
theorem rnI_at {n : Nat} {fr tg : List Nat} : ∀ i, i ≤ fr.length → ∀ v, v < n → (∃ j, j < i ∧ fr.getD j 0 = v ∧ (rnI n fr tg i).getD v 0 = tg.getD j 0) ∨ ((∀ j, j < i → fr.getD j 0 ≠ v) ∧ (rnI n fr tg i).getD v 0 = v)
  | 0, _, v, hv => .inr ⟨fun j hj => by omega, by simp [rnI, hv]⟩
  | i + 1, hi, v, hv => by
    rw [rnI_succ]
    have hl := rnI_len n fr tg i
    by_cases e : fr.getD i 0 = v
    · refine .inl ⟨i, by omega, e, ?_⟩
      rw [List.getD_eq_getElem?_getD, List.getElem?_set, if_pos e, if_pos (by rw [hl, e]; exact hv)]; rfl
    · have ih := rnI_at (fr := fr) (tg := tg) i (by omega) v hv
      have e2 : ((rnI n fr tg i).set (fr.getD i 0) (tg.getD i 0)).getD v 0 = (rnI n fr tg i).getD v 0 := by
        rw [List.getD_eq_getElem?_getD, List.getElem?_set, if_neg e, ← List.getD_eq_getElem?_getD]
      rw [e2]
      rcases ih with ⟨j, h1, h2, h3⟩ | ⟨h1, h2⟩
      · exact .inl ⟨j, by omega, h2, h3⟩
      · refine .inr ⟨fun j hj => ?_, h2⟩
        by_cases ej : j = i
        · rw [ej]; exact e
        · exact h1 j (by omega)
/-- A bijection of the variables. -/
def Bij (n : Nat) (t s : Nat → Nat) : Prop := ∀ v, v < n → t v < n ∧ s v < n ∧ s (t v) = v ∧ t (s v) = v
def tgL (n : Nat) (t : Nat → Nat) : List Nat := (List.range n).map t
theorem tgL_len (n : Nat) (t : Nat → Nat) : (tgL n t).length = n := by simp [tgL]
theorem tgL_at {n v : Nat} (t : Nat → Nat) (h : v < n) : (tgL n t).getD v 0 = t v := by simp [tgL, h]
theorem range_at' {n v : Nat} (h : v < n) : (List.range n).getD v 0 = v := by simp [h]
theorem tgL_lt {n : Nat} {t s : Nat → Nat} (b : Bij n t s) : ∀ v, v ∈ tgL n t → v < n := fun v hv => by
  obtain ⟨u, hu, rfl⟩ := List.mem_map.1 hv
  exact (b u (List.mem_range.1 hu)).1
theorem tgL_nodup {n : Nat} {t s : Nat → Nat} (b : Bij n t s) : (tgL n t).Nodup := by
  unfold tgL
  rw [List.nodup_iff_pairwise_ne, List.pairwise_map]
  have hr : (List.range n).Nodup := List.nodup_range
  rw [List.nodup_iff_pairwise_ne] at hr
  refine hr.imp_of_mem (fun {x y} hx hy hne e => hne ?_)
  have h1 := (b x (List.mem_range.1 hx)).2.2.1
  have h2 := (b y (List.mem_range.1 hy)).2.2.1
  rw [← h1, ← h2, e]
theorem rn_fwd {n : Nat} {t : Nat → Nat} {v : Nat} (h : v < n) : rnT n (List.range n) (tgL n t) v = t v := by
  unfold rnT
  rcases rnI_at (fr := List.range n) (tg := tgL n t) (List.range n).length (Nat.le_refl _) v h with ⟨j, h1, h2, h3⟩ | ⟨h1, _⟩
  · rw [List.length_range] at h1
    rw [range_at' h1] at h2
    subst h2
    rw [h3, tgL_at t h1]
  · exact absurd (range_at' h) (h1 v (by simpa using h))
theorem rn_bwd {n : Nat} {t s : Nat → Nat} (b : Bij n t s) {v : Nat} (h : v < n) : rnT n (tgL n t) (List.range n) v = s v := by
  unfold rnT
  rcases rnI_at (fr := tgL n t) (tg := List.range n) (tgL n t).length (Nat.le_refl _) v h with ⟨j, h1, h2, h3⟩ | ⟨h1, _⟩
  · rw [tgL_len] at h1
    rw [tgL_at t h1] at h2
    rw [h3, range_at' h1, ← h2, (b j h1).2.2.1]
  · have hb := b v h
    exact absurd (by rw [tgL_at t hb.2.1]; exact hb.2.2.2) (h1 (s v) (by rw [tgL_len]; exact hb.2.1))
theorem rn_none {n v : Nat} (h : v < n) : rnT n [] [] v = v := by simp [rnT, rnI, h]
theorem rn_back {n : Nat} {t s : Nat → Nat} (b : Bij n t s) {F : Bfn} (hF : Rd 0 n F) (a : Nat → Bool) : rnF (rnT n (tgL n t) (List.range n)) (rnF (rnT n (List.range n) (tgL n t)) F) a = F a := by
  unfold rnF
  refine hF _ _ (fun v _ hv => ?_)
  dsimp only
  rw [rn_fwd hv, rn_bwd b (b v hv).1, (b v hv).2.2.1]
theorem rn_id {n : Nat} {F : Bfn} (hF : Rd 0 n F) (a : Nat → Bool) : rnF (rnT n [] []) F a = F a := by
  unfold rnF
  exact hF _ _ (fun v _ hv => by rw [rn_none hv])
/-- Two entries exchanged. -/
def swp (x y v : Nat) : Nat := if v = x then y else if v = y then x else v
theorem swp_swp (x y v : Nat) : swp x y (swp x y v) = v := by
  unfold swp
  by_cases h1 : v = x
  · subst h1
    rw [if_pos rfl]
    by_cases h2 : y = v
    · rw [if_pos h2]; exact h2
    · rw [if_neg h2, if_pos rfl]
  · rw [if_neg h1]
    by_cases h2 : v = y
    · subst h2; rw [if_pos rfl, if_pos rfl]
    · rw [if_neg h2, if_neg h1, if_neg h2]
theorem swp_lt {n x y v : Nat} (hx : x < n) (hy : y < n) (hv : v < n) : swp x y v < n := by unfold swp; split; exact hy; split; exact hx; exact hv
theorem Bij.swap {n : Nat} {t s : Nat → Nat} (b : Bij n t s) {x y : Nat} (hx : x < n) (hy : y < n) : Bij n (fun v => t (swp x y v)) (fun v => swp x y (s v)) := fun v hv => by
  have h1 := swp_lt hx hy hv
  have b1 := b _ h1
  have b2 := b v hv
  exact ⟨b1.1, swp_lt hx hy b2.2.1, by dsimp only; rw [b1.2.2.1, swp_swp], by dsimp only; rw [swp_swp]; exact b2.2.2.2⟩
theorem tgL_swap {n : Nat} (t : Nat → Nat) {x y : Nat} (hx : x < n) (hy : y < n) : ((tgL n t).set x (t y)).set y (t x) = tgL n (fun v => t (swp x y v)) := by
  apply List.ext_getElem?
  intro v
  rw [List.getElem?_set, List.getElem?_set, List.length_set, tgL_len]
  unfold tgL
  simp only [List.getElem?_map]
  by_cases hv : v < n
  · rw [List.getElem?_range hv]
    unfold swp
    by_cases h1 : y = v
    · subst h1
      rw [if_pos rfl, if_pos hy]
      by_cases h2 : y = x
      · subst h2; simp
      · simp [h2]
    · rw [if_neg h1]
      by_cases h2 : x = v
      · subst h2; rw [if_pos rfl, if_pos hx]; simp
      · rw [if_neg h2]
        have e1 : ¬ v = x := fun e => h2 e.symm
        have e2 : ¬ v = y := fun e => h1 e.symm
        simp [e1, e2]
  · have e : (List.range n)[v]? = none := List.getElem?_eq_none (by simp; omega)
    rw [e, if_neg (by omega), if_neg (by omega)]
    rfl

/-! ### the state -/
structure QpS (w : World) (p n : Nat) (y : World) (M : Mgr) (L : Lay) (fv tv : Value) (fs : List Int) (Fs : List BF) (tvs : List Value) (v1 v2 : Value) (l1 l2 : List Nat) : Prop where
  fr : Front w p n y M L fv tv fs Fs tvs
  r1 : y.ownsRow w.heap.size 3 1 v1 n (l1.map natV)
  r2 : y.ownsRow w.heap.size 3 1 v2 n (l2.map natV)
  o1 : Off L p v1
  o2 : Off L p v2
theorem QpS.no {w : World} {p n : Nat} {y z : World} {M : Mgr} {L : Lay} {fv tv : Value} {fs : List Int} {Fs : List BF} {tvs : List Value} {v1 v2 : Value} {l1 l2 : List Nat} (s : QpS w p n y M L fv tv fs Fs tvs v1 v2 l1 l2) (k : Kp No y z) : QpS w p n z M L fv tv fs Fs tvs v1 v2 l1 l2 :=
  ⟨s.fr.no k, ownsRow_kp s.r1 k (fun _ _ x => x), ownsRow_kp s.r2 k (fun _ _ x => x), s.o1, s.o2⟩
theorem QpS.step {w : World} {p n : Nat} {y z : World} {M M' : Mgr} {L : Lay} {fv tv : Value} {fs : List Int} {Fs : List BF} {tvs : List Value} {v1 v2 v : Value} {l1 l2 : List Nat} {e : Ending} (s : QpS w p n y M L fv tv fs Fs tvs v1 v2 l1 l2) (h : Ret p L y M' v e z) :
    e = .returned v ∧ ∃ L', QpS w p n z M' L' fv tv fs Fs tvs v1 v2 l1 l2 := by
  obtain ⟨L1, he, r1, k1, f1⟩ := h
  have j := s.fr
  refine ⟨he, L1, ⟨⟨⟨r1, j.own.kp.trans (A' := L.at p) (fun x hx => .inr (j.own.own x hx)) k1, fun x hx => ?_⟩, ownsRow_kp j.frow k1 j.fo, ownsRow_kp j.trow k1 j.tof, j.fo.step f1 (fun k hk => (j.frow.lt k hk).2), j.tof.step f1 (fun k hk => (j.trow.lt k hk).2), j.tlen, j.flen,
    fun i x F h1 h2 => ⟨(j.tabs i x F h1 h2).1.kp k1 (j.tabs i x F h1 h2).2, (j.tabs i x F h1 h2).2.step f1 (fun k hk => ((j.tabs i x F h1 h2).1.lt k hk).2)⟩⟩, ownsRow_kp s.r1 k1 s.o1, ownsRow_kp s.r2 k1 s.o2, s.o1.step f1 (fun k hk => (s.r1.lt k hk).2), s.o2.step f1 (fun k hk => (s.r2.lt k hk).2)⟩⟩
  rcases f1 x hx with h1 | h1
  · exact j.own.own x h1
  · have := j.own.kp.size; omega
/-- The permutation is made. -/
def QpR (w5 : World) (B g n c N gk : Nat) (s18 : Value) (x : World) : Prop :=
  ∃ i t s, i + gk = N ∧ s18 = .int .i64 (((2 * i : Nat)) : Int) ∧ Bij n t s ∧ x.ownsRow B 3 1 (.slice (some ⟨g, 0, none⟩) n c) n ((tgL n t).map natV) ∧ Kp (fun z => z = g) w5 x

set_option maxRecDepth 1000000 in
set_option maxHeartbeats 16000000 in
theorem QuantPermutes_walk (x : Int) (l : List Stp) {sv : Value} {w : World} (hs : StepsAt w sv l) (i1 i2 : Int) (ls : List Int) {wv : Value} (hls : IntsAt w wv ls) :
    Calls Try.prog 6 #[.int .i64 x, sv, .int .i64 i1, .int .i64 i2, wv] w fun e w' => e = .returned (.bool true) ∧ Kp No w w' := by
  obtain ⟨hn1, hn6⟩ := nv_le x
  have VA := Lib.hid (fun w => Vars_ok x w)
  generalize nv x = n at *
  have NEW := Lib.hid (fun (w0 : World) (k0 : Kp No w w0) => New_own (n := n) (by omega) k0)
  have ST := Lib.hid hs
  obtain ⟨ao, c, rfl, _⟩ := hs
  have HSW := Lib.hid hls
  obtain ⟨aw, cw, rfl, _, hlc⟩ := hls
  by_cases h20 : 20 < ls.length
  · have h20i : (20 : Int) < ls.length := by omega
    clear hlc
    by_cases h30 : 30 < l.length
    · have h30i : (30 : Int) < l.length := by omega
      go_enter Try.func6, Try.ntmps6
      go_wp2_with fail
      refine (qawake_ok w).mono ?_
      rintro e w0 ⟨rfl, k0⟩
      have K0 := Lib.hid k0
      clear k0
      go_wp2_with fail
      go_ret
      exact ⟨rfl, K0.out⟩
    · have h30i : ¬ (30 : Int) < l.length := by omega
      go_enter Try.func6, Try.ntmps6
      go_wp2_with fail
      refine (qawake_ok w).mono ?_
      rintro e w0 ⟨rfl, k0⟩
      have K0 := Lib.hid k0
      clear k0
      go_wp2_with fail
      go_ret
      exact ⟨rfl, K0.out⟩
  have h20i : ¬ (20 : Int) < ls.length := by omega
  by_cases h40 : l.length ≤ 30
  · have hl : ¬ (30 : Int) < l.length := by omega
    go_enter Try.func6, Try.ntmps6
    go_wp2_with fail
    refine (qawake_ok w).mono ?_
    rintro e w0 ⟨rfl, k0⟩
    have K0 := Lib.hid k0
    clear k0
    go_wp2_with fail
    refine (VA.out w0).mono ?_
    rintro e w0' ⟨rfl, rfl⟩
    go_wp2_with fail
    refine (NEW.out w0 K0.out).mono ?_
    rintro e w1 ⟨p, L1, rfl, s1, k1⟩
    have S1 := Lib.hid s1
    clear s1 k1 NEW
    go_wp2_with fail
    refine (Run_own hn6 hn1 S1.out (by omega) ST.out).mono ?_
    rintro e w2 ⟨fv, tv, L2, tvs, rfl, fr⟩
    obtain ⟨rp, hFl⟩ := run_rp hn1 hn6 l (by omega)
    have pl := run_plain hn1 hn6 l
    generalize runM (Mgr.new n) n l = X at *
    generalize runF n l = Fs at *
    obtain ⟨M, fs⟩ := X
    simp only at fr rp pl
    have hpos := rp.pos
    have hfl : fs.length ≤ 100 := by rw [← fr.flen]; omega
    obtain ⟨gf, cf, gt, ct, rfl, rfl, lf, lt⟩ := fr.forms (by omega)
    have FR := Lib.hid fr
    have RPH := Lib.hid rp
    have PLH := Lib.hid pl
    clear fr rp hFl pl
    have h1 := pick_lt i1 (n := fs.length) (by omega)
    have h2 := pick_lt i2 (n := fs.length) (by omega)
    have P1 := Lib.hid (fun (z : World) => Pick_ok i1 fs.length z (by omega) (by omega))
    have P2 := Lib.hid (fun (z : World) => Pick_ok i2 fs.length z (by omega) (by omega))
    have ALL : Hid (∀ y M' L', Front w p n y M' L' (.slice (some ⟨gf, 0, none⟩) fs.length cf) (.slice (some ⟨gt, 0, none⟩) fs.length ct) fs Fs tvs → y.cell? ⟨gf, pick i1 fs.length, none⟩ = some (.int .i64 (fs.getD (pick i1 fs.length) 0)) ∧ y.cell? ⟨gf, pick i2 fs.length, none⟩ = some (.int .i64 (fs.getD (pick i2 fs.length) 0))) := Lib.hid (fun y M' L' j => ⟨j.cellF h1, j.cellF h2⟩)
    have BK0 := Lib.hid ((Qk.of_rp RPH.out PLH.out).sub (B' := [(fs.getD (pick i1 fs.length) 0, Fs.getD (pick i1 fs.length) (fun _ => false)), (fs.getD (pick i2 fs.length) 0, Fs.getD (pick i2 fs.length) (fun _ => false))]) (fun x hx => by
      have e := FR.out.flen
      rcases List.mem_cons.1 hx with rfl | hx
      · exact mem_zipQ h1 e
      · rw [List.mem_singleton.1 hx]; exact mem_zipQ h2 e))
    have lai : (pick i1 fs.length : Int) < fs.length := by omega
    have lbi : (pick i2 fs.length : Int) < fs.length := by omega
    generalize fs.getD (pick i1 fs.length) 0 = f at *
    generalize fs.getD (pick i2 fs.length) 0 = g at *
    generalize Fs.getD (pick i1 fs.length) (fun _ => false) = F at *
    generalize Fs.getD (pick i2 fs.length) (fun _ => false) = G at *
    generalize pick i1 fs.length = ia at *
    generalize pick i2 fs.length = ib at *
    clear RPH PLH h1 h2 hpos hfl lf lt S1 ST VA K0
    have F0 := Lib.hid (FR.out.no Kp.drew)
    have S0 := Lib.hid (ALL.out _ _ _ F0.out)
    clear FR
    go_upto_region 10 with fail
    go_region_held3 (fun y => y.cell? ⟨gf, ia, none⟩ = some (.int .i64 f) ∧ y.cell? ⟨gf, ib, none⟩ = some (.int .i64 g)) (exact S0.out) (first | (go_at_call 13; first | ((with_reducible refine (P1.out _).mono ?_); rintro e wa ⟨rfl, rfl⟩) | ((with_reducible refine (P2.out _).mono ?_); rintro e wa ⟨rfl, rfl⟩)))
    clear S0 P1 P2 ALL
    generalize w2.drew = w3 at *
    have ID := Lib.hid (fun (z : World) => Identity_ok n hn6 z)
    go_wp2_with fail
    refine (ID.out _).mono ?_
    rintro e w4 ⟨v1, rfl, r1, k1⟩
    rw [List.length_range] at r1
    obtain ⟨a1, d1, rfl⟩ := rowForm r1
    have F1 := Lib.hid (F0.out.no k1)
    have R1 := Lib.hid r1
    have RL := Lib.hid F0.out.own.rep.lt
    have KS := Lib.hid k1.size
    have K34 := Lib.hid k1
    clear r1 k1
    go_wp2_with fail
    refine (ID.out _).mono ?_
    rintro e w5 ⟨v2, rfl, r2, k2⟩
    rw [List.length_range] at r2
    obtain ⟨g2, d2, rfl, _⟩ := ownsRow_open r2 (by omega)
    have F2 := Lib.hid (F1.out.no k2)
    have hw3 : Hid (w.heap.size ≤ w3.heap.size) := Lib.hid F0.out.own.kp.size
    have R1' := Lib.hid (ownsRow_mono (ownsRow_kp R1.out k2 (fun _ _ z => z)) hw3.out)
    have R2' := Lib.hid (show w5.ownsRow w.heap.size 3 1 (.slice (some ⟨g2, 0, none⟩) n d2) n ((tgL n (fun v => v)).map natV) from by
      have e : tgL n (fun v => v) = List.range n := by simp [tgL]
      rw [e]
      exact ownsRow_mono r2 (by have := hw3.out; have := KS.out; omega))
    have O1 : Hid (Off L2 p (.slice a1 n d1)) := Lib.hid (fun b hb hA => by have h1 := (R1.out.lt b hb).1; have h2 := RL.out b hA; omega)
    have G2 : Hid (w4.heap.size ≤ g2 ∧ g2 < w5.heap.size) := Lib.hid (r2.lt g2 rfl)
    have NG1 : Hid (∀ b, (Value.slice a1 n d1).ownBlock = some b → b < w4.heap.size) := Lib.hid (fun b hb => (R1.out.lt b hb).2)
    have K35 := Lib.hid (K34.out.trans_no k2)
    clear r2 k2 ID F1 R1
    have J0 : Hid (QpR w5 w.heap.size g2 n d2 (ls.length / 2) (ls.length / 2) (.int .i64 0) w5) := Lib.hid ⟨0, fun v => v, fun v => v, by omega, rfl, fun v hv => ⟨hv, hv, rfl, rfl⟩, R2'.out, Kp.refl _ _⟩
    have CW : Hid (∀ y, Kp (fun z => z = g2) w5 y → ∀ j, j < ls.length → ∃ gw ow, aw = some ⟨gw, ow, none⟩ ∧ y.cell? ⟨gw, ow + j, none⟩ = some (.int .i64 (ls.getD j 0))) := Lib.hid (fun y ky j hj => by
      rcases hlc with h | ⟨gw, ow, e, hg, hc⟩
      · rw [h] at hj; simp at hj
      · refine ⟨gw, ow, e, ?_⟩
        have h1 := hc j (ls.getD j 0) (by simp [hj])
        have h2 := F2.out.own.kp
        have h3 := G2.out
        have h4 := hw3.out
        have h5 := KS.out
        rw [ky.cell (a := ⟨gw, ow + j, none⟩) (by show gw < _; have := h2.size; omega) (fun e => by have : gw = g2 := e; omega), h2.cell (a := ⟨gw, ow + j, none⟩) hg (fun z => z)]
        exact h1)
    have PV := Lib.hid (fun (x : Int) (z : World) => Pick_ok x n z (by omega) (by omega))
    go_wp2_with fail
    go_loopg [18] (ls.length / 2) (fun gk s18 x => QpR w5 w.heap.size g2 n d2 (ls.length / 2) gk s18 x)
    case atStart => exact J0.out
    case round =>
      clear J0
      obtain ⟨i, t, s, hi, rfl, bij, row, kp⟩ := hrel
      have HI := Lib.hid hi
      by_cases hlt : i < ls.length / 2
      · obtain ⟨J, hJ⟩ : ∃ J, J = 2 * i := ⟨_, rfl⟩
        rw [← hJ]
        obtain ⟨K, hK⟩ : ∃ K, K = J + 1 := ⟨_, rfl⟩
        have hJ1 : K < ls.length := by omega
        have hKi : (J : Int) + 1 = (K : Int) := by omega
        have hKl : (K : Int) < ls.length := by omega
        have hKw : IntKind.i64.wrap (K : Int) = (K : Int) := IntWalk.i64_in _ ⟨by omega, by omega⟩
        have hKw2 : IntKind.i64.wrap ((J : Int) + 1) = (K : Int) := by rw [hKi]; exact hKw
        have hJi0 : (J : Int) < ls.length := by omega
        have HJN : Hid (J + 2 = 2 * (i + 1)) := Lib.hid (by omega)
        clear hJ hK
        obtain ⟨gw, ow, ea, c0⟩ := CW.out wr kp J (by omega)
        obtain ⟨gw', ow', ea', c1⟩ := CW.out wr kp K hJ1
        subst ea
        cases ea'
        have hx := pick_lt (ls.getD J 0) (n := n) (by omega)
        have hy := pick_lt (ls.getD K 0) (n := n) (by omega)
        have PX := Lib.hid (PV.out (ls.getD J 0))
        have PY := Lib.hid (PV.out (ls.getD K 0))
        have S0 : Hid (wr.drew.cell? ⟨gw, ow + J, none⟩ = some (.int .i64 (ls.getD J 0)) ∧ wr.drew.cell? ⟨gw, ow + K, none⟩ = some (.int .i64 (ls.getD K 0))) := Lib.hid ⟨c0, c1⟩
        clear c0 c1 hi
        generalize pick (ls.getD J 0) n = a at *
        generalize pick (ls.getD K 0) n = b at *
        generalize ls.getD J 0 = x0 at *
        generalize ls.getD K 0 = x1 at *
        have BIJ := Lib.hid (bij.swap hx hy)
        have TSW := Lib.hid (tgL_swap t hx hy)
        have ta := (bij a hx).1
        have tb := (bij b hy).1
        have ROWD := Lib.hid (ownsRow_kp row (Kp.drew (w := wr)) (fun _ _ z => z))
        have KPD := Lib.hid (kp.trans_no (Kp.drew (w := wr)))
        clear row kp
        go_upto_region 16 with fail
        go_region_held3 (fun y => y.cell? ⟨gw, ow + J, none⟩ = some (.int .i64 x0) ∧ y.cell? ⟨gw, ow + K, none⟩ = some (.int .i64 x1)) (exact S0.out) (first | (go_at_call 13; first | ((with_reducible refine (PX.out _).mono ?_); rintro e wa ⟨rfl, rfl⟩) | ((with_reducible refine (PY.out _).mono ?_); rintro e wa ⟨rfl, rfl⟩)))
        clear S0
        generalize wr.drew = wd at *
        obtain ⟨_, _, hv3, _, _, _, hcr, hzr⟩ := ownsRow_open ROWD.out (by omega)
        cases hv3
        have ca := hcr a (natV (t a)) (by simp [tgL, hx])
        have cb := hcr b (natV (t b)) (by simp [tgL, hy])
        unfold natV at ca cb
        have hai : (a : Int) < n := by omega
        have hbi : (b : Int) < n := by omega
        have ROW1 := ownsRow_put ROWD.out a (natV (t b))
        obtain ⟨_, _, hv4, _, _, _, hcr1, hzr1⟩ := ownsRow_open ROW1 (by omega)
        cases hv4
        obtain ⟨ub, hub⟩ : ∃ ub, (((tgL n t).map natV).set a (natV (t b)))[b]? = some ub := ⟨_, List.getElem?_eq_getElem (by simp [tgL]; exact hy)⟩
        have cb1 := hcr1 b ub hub
        have zb1 := hzr1 b
        have za := hzr a
        unfold natV at cb1 zb1
        have JN : Hid (QpR w5 w.heap.size g2 n d2 (ls.length / 2) (ls.length / 2 - (i + 1)) (.int .i64 ((J : Int) + 2)) ((((wd.setCell ⟨g2, a, none⟩ (.int .i64 (t b : Int))).setCell ⟨g2, b, none⟩ (.int .i64 (t a : Int)))).drewN 1)) := Lib.hid ⟨i + 1, _, _, by have := HI.out; omega, by rw [show (((2 * (i + 1) : Nat)) : Int) = (J : Int) + 2 from by have := HJN.out; omega], BIJ.out, by
          refine ownsRow_kp ?_ (Kp.drewN 1) (fun _ _ z => z)
          have := ownsRow_put ROW1 b (natV (t a))
          have e : ((tgL n t).map natV).set a (natV (t b)) = ((tgL n t).set a (t b)).map natV := by rw [List.map_set]
          rw [e, show (((tgL n t).set a (t b)).map natV).set b (natV (t a)) = (((tgL n t).set a (t b)).set b (t a)).map natV from List.map_set.symm, TSW.out] at this
          exact this, ((KPD.out.trans (A' := fun z => z = g2) (fun _ h => .inl h) ((Kp.setCell _ _).mono (fun _ _ h => h))).trans (A' := fun z => z = g2) (fun _ h => .inl h) ((Kp.setCell _ _).mono (fun _ _ h => h))).trans_no (Kp.drewN 1)⟩
        clear hcr hcr1 ROW1 hub
        go_upto_region 17 with fail
        go_region
        go_wp2_with fail
        go_roundg (ls.length / 2 - (i + 1))
        case measure => have := HI.out; omega
        case rel => exact JN.out
      · obtain rfl : i = ls.length / 2 := by omega
        obtain ⟨J, hJ⟩ : ∃ J, J = 2 * (ls.length / 2) := ⟨_, rfl⟩
        rw [← hJ]
        have hge : ¬ (J : Int) + 1 < ls.length := by omega
        have hJw : IntKind.i64.wrap ((J : Int) + 1) = (J : Int) + 1 := IntWalk.i64_in _ ⟨by omega, by omega⟩
        have KW : Hid (Kp No w3 wr) := Lib.hid ((K35.out.trans (A' := fun z => z = g2) (fun z e => .inr (by have := G2.out; have := KS.out; omega)) kp))
        have s0 := Lib.hid (show QpS w p n wr M L2 (.slice (some ⟨gf, 0, none⟩) fs.length cf) (.slice (some ⟨gt, 0, none⟩) fs.length ct) fs Fs tvs (.slice a1 n d1) (.slice (some ⟨g2, 0, none⟩) n d2) (List.range n) (tgL n t) from
          ⟨F0.out.no KW.out, ownsRow_kp R1'.out kp (fun b hb e => by have h1 := NG1.out b hb; have h2 := G2.out; omega), row, O1.out, fun b hb hA => by
            have : g2 = b := by injection hb
            subst this
            have h1 := RL.out _ hA; have h2 := G2.out; have h3 := KS.out; omega⟩)
        have b0 := Lib.hid BK0.out.consts
        have BJ := Lib.hid bij
        have RDF := Lib.hid (BK0.out.rd (f := f) (F := F) (.head _))
        have RN1 : Hid (∀ (y : World) (M : Mgr) (L : Lay) (c0 : Nat) (B : List (Int × Bfn)) (f : Int) (F : Bfn), QpS w p n y M L (.slice (some ⟨gf, 0, none⟩) fs.length cf) (.slice (some ⟨gt, 0, none⟩) fs.length ct) fs Fs tvs (.slice a1 n d1) (.slice (some ⟨g2, 0, none⟩) n d2) (List.range n) (tgL n t) → Qk n c0 M B → c0 ≤ 900000000000 → (f, F) ∈ B → Calls Try.prog 22 #[ptr p, .int .i64 f, .slice a1 n d1, .slice (some ⟨g2, 0, none⟩) n d2] y (OpQ p n (c0 + 16777300) L y (rnF (rnT n (List.range n) (tgL n t)) F) B)) := Lib.hid (fun y M L c0 B f F S b hc hf =>
          RenameS hn6 (by omega) S.fr.own.rep b hc hf (List.range n) (tgL n t) (by rw [List.length_range, tgL_len]) (by rw [List.length_range]; omega) (fun v hv => List.mem_range.1 hv) (tgL_lt bij) List.nodup_range (fun v hv => by rw [rn_fwd hv]; exact (bij v hv).1) (by rw [List.length_range]; exact SrcAt.of_row S.r1) (by rw [tgL_len]; exact SrcAt.of_row S.r2))
        have RN2 : Hid (∀ (y : World) (M : Mgr) (L : Lay) (c0 : Nat) (B : List (Int × Bfn)) (f : Int) (F : Bfn), QpS w p n y M L (.slice (some ⟨gf, 0, none⟩) fs.length cf) (.slice (some ⟨gt, 0, none⟩) fs.length ct) fs Fs tvs (.slice a1 n d1) (.slice (some ⟨g2, 0, none⟩) n d2) (List.range n) (tgL n t) → Qk n c0 M B → c0 ≤ 900000000000 → (f, F) ∈ B → Calls Try.prog 22 #[ptr p, .int .i64 f, .slice (some ⟨g2, 0, none⟩) n d2, .slice a1 n d1] y (OpQ p n (c0 + 16777300) L y (rnF (rnT n (tgL n t) (List.range n)) F) B)) := Lib.hid (fun y M L c0 B f F S b hc hf =>
          RenameS hn6 (by omega) S.fr.own.rep b hc hf (tgL n t) (List.range n) (by rw [List.length_range, tgL_len]) (by rw [tgL_len]; omega) (tgL_lt bij) (fun v hv => List.mem_range.1 hv) (tgL_nodup bij) (fun v hv => by rw [rn_bwd bij hv]; exact (bij v hv).2.1) (by rw [tgL_len]; exact SrcAt.of_row S.r2) (by rw [List.length_range]; exact SrcAt.of_row S.r1))
        clear row kp hi hJ hlt K35 F0 R1' R2' KW CW BK0 bij O1 NG1
        go_wp2_with fail
        refine (RN1.out _ _ _ _ _ f F s0.out b0.out (by omega) (by repeat (first | exact List.Mem.head _ | apply List.Mem.tail))).mono ?_
        rintro e u1 ⟨x1, N1, h1, q1, _⟩
        obtain ⟨rfl, T1, d1⟩ := s0.out.step h1
        have s1 := Lib.hid d1
        have b1 := Lib.hid q1
        clear h1 q1 d1 s0 b0
        go_wp2_with fail
        refine (RN1.out _ _ _ _ _ g G s1.out b1.out (by omega) (by repeat (first | exact List.Mem.head _ | apply List.Mem.tail))).mono ?_
        rintro e u2 ⟨y1, N2, h2, q2, _⟩
        obtain ⟨rfl, T2, d2⟩ := s1.out.step h2
        have s2 := Lib.hid d2
        have b2 := Lib.hid q2
        clear h2 q2 d2 s1 b1
        go_wp2_with fail
        refine (RN2.out _ _ _ _ _ x1 (rnF (rnT n (List.range n) (tgL n t)) F) s2.out b2.out (by omega) (by repeat (first | exact List.Mem.head _ | apply List.Mem.tail))).mono ?_
        rintro e u3 ⟨z3, N3, h3, q3, _⟩
        have er : f = z3 := q3.eq (f := f) (F := F) (g := z3) (G := rnF (rnT n (tgL n t) (List.range n)) (rnF (rnT n (List.range n) (tgL n t)) F)) (by repeat (first | exact List.Mem.head _ | apply List.Mem.tail)) (List.Mem.head _) (fun a => (rn_back BJ.out RDF.out a).symm)
        obtain ⟨rfl, T3, d3⟩ := s2.out.step h3
        have s3 := Lib.hid d3
        subst er
        have b3 := Lib.hid q3.tail
        clear h3 q3 d3 s2 b2
        go_wp2_with fail
        refine (AndS hn6 s3.out.fr.own.rep b3.out (by omega) (f := f) (F := F) (g := g) (G := G) (by repeat (first | exact List.Mem.head _ | apply List.Mem.tail)) (by repeat (first | exact List.Mem.head _ | apply List.Mem.tail))).mono ?_
        rintro e u4 ⟨z4, N4, h4, q4, _⟩
        obtain ⟨rfl, T4, d4⟩ := s3.out.step h4
        have s4 := Lib.hid d4
        have b4 := Lib.hid q4
        clear h4 q4 d4 s3 b3
        go_wp2_with fail
        refine (RN1.out _ _ _ _ _ z4 (fun a => F a && G a) s4.out b4.out (by omega) (by repeat (first | exact List.Mem.head _ | apply List.Mem.tail))).mono ?_
        rintro e u5 ⟨z5, N5, h5, q5, _⟩
        obtain ⟨rfl, T5, d5⟩ := s4.out.step h5
        have s5 := Lib.hid d5
        have b5 := Lib.hid q5
        clear h5 q5 d5 s4 b4
        go_wp2_with fail
        refine (AndS hn6 s5.out.fr.own.rep b5.out (by omega) (f := x1) (F := rnF (rnT n (List.range n) (tgL n t)) F) (g := y1) (G := rnF (rnT n (List.range n) (tgL n t)) G) (by repeat (first | exact List.Mem.head _ | apply List.Mem.tail)) (by repeat (first | exact List.Mem.head _ | apply List.Mem.tail))).mono ?_
        rintro e u6 ⟨z6, N6, h6, q6, _⟩
        have er : z5 = z6 := q6.eq (f := z5) (F := rnF (rnT n (List.range n) (tgL n t)) (fun a => F a && G a)) (g := z6) (G := fun a => rnF (rnT n (List.range n) (tgL n t)) F a && rnF (rnT n (List.range n) (tgL n t)) G a) (by repeat (first | exact List.Mem.head _ | apply List.Mem.tail)) (List.Mem.head _) (fun _ => rfl)
        obtain ⟨rfl, T6, d6⟩ := s5.out.step h6
        have s6 := Lib.hid d6
        subst er
        have b6 := Lib.hid q6.tail
        clear h6 q6 d6 s5 b5
        go_wp2_with fail
        refine (NotS hn6 s6.out.fr.own.rep b6.out (by omega) (f := f) (F := F) (by repeat (first | exact List.Mem.head _ | apply List.Mem.tail))).mono ?_
        rintro e u7 ⟨z7, N7, h7, q7, _⟩
        obtain ⟨rfl, T7, d7⟩ := s6.out.step h7
        have s7 := Lib.hid d7
        have b7 := Lib.hid q7
        clear h7 q7 d7 s6 b6
        go_wp2_with fail
        refine (RN1.out _ _ _ _ _ z7 (fun a => !F a) s7.out b7.out (by omega) (by repeat (first | exact List.Mem.head _ | apply List.Mem.tail))).mono ?_
        rintro e u8 ⟨z8, N8, h8, q8, _⟩
        obtain ⟨rfl, T8, d8⟩ := s7.out.step h8
        have s8 := Lib.hid d8
        have b8 := Lib.hid q8
        clear h8 q8 d8 s7 b7
        go_wp2_with fail
        refine (NotS hn6 s8.out.fr.own.rep b8.out (by omega) (f := x1) (F := rnF (rnT n (List.range n) (tgL n t)) F) (by repeat (first | exact List.Mem.head _ | apply List.Mem.tail))).mono ?_
        rintro e u9 ⟨z9, N9, h9, q9, _⟩
        have er : z8 = z9 := q9.eq (f := z8) (F := rnF (rnT n (List.range n) (tgL n t)) (fun a => !F a)) (g := z9) (G := fun a => !rnF (rnT n (List.range n) (tgL n t)) F a) (by repeat (first | exact List.Mem.head _ | apply List.Mem.tail)) (List.Mem.head _) (fun _ => rfl)
        obtain ⟨rfl, T9, d9⟩ := s8.out.step h9
        have s9 := Lib.hid d9
        subst er
        have b9 := Lib.hid q9.tail
        clear h9 q9 d9 s8 b8
        go_wp2_with fail
        refine (RenameS hn6 (by omega) s9.out.fr.own.rep b9.out (by omega) (f := f) (F := F) (by repeat (first | exact List.Mem.head _ | apply List.Mem.tail)) [] [] rfl (by simp) (by simp) (by simp) List.nodup_nil (fun v hv => by rw [rn_none hv]; exact hv) (fv := .slice none 0 0) (tv := .slice none 0 0) ⟨none, 0, rfl, rfl, .inl rfl⟩ ⟨none, 0, rfl, rfl, .inl rfl⟩).mono ?_
        rintro e u10 ⟨z10, N10, h10, q10, _⟩
        have er : f = z10 := q10.eq (f := f) (F := F) (g := z10) (G := rnF (rnT n [] []) F) (by repeat (first | exact List.Mem.head _ | apply List.Mem.tail)) (List.Mem.head _) (fun a => (rn_id RDF.out a).symm)
        obtain ⟨rfl, T10, d10⟩ := s9.out.step h10
        have s10 := Lib.hid d10
        subst er
        have b10 := Lib.hid q10.tail
        clear h10 q10 d10 s9 b9
        have KF := Lib.hid s10.out.fr.own.kp
        clear s10 b10 RN1 RN2
        go_wp2_with fail
        go_ret
        exact ⟨by simp, KF.out⟩
  · have hl : (30 : Int) < l.length := by omega
    go_enter Try.func6, Try.ntmps6
    go_wp2_with fail
    refine (qawake_ok w).mono ?_
    rintro e w0 ⟨rfl, k0⟩
    have K0 := Lib.hid k0
    clear k0
    go_wp2_with fail
    go_ret
    exact ⟨rfl, K0.out⟩

end Go.Proofs.Ytohinonkfhkclaa
