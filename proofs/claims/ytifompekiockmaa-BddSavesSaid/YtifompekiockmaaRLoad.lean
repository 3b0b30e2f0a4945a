/-
  Walks: 'Load' of the reference netverifyref26.
-/
import Derived.Test.YtifompekiockmaaLoad
import Derived.Test.YtifompekiockmaaRunJ
namespace Go.Proofs.Ytifompekiockmaa
open Go.RowKit

theorem info_func' : (Try.prog.info? 43).map (fun i => (i.zero, i.size, i.bytes)) = some (some (.slice none 0 0), 1, 24) := by kernel_rfl

/-- A list of tables in memory, made since w. -/
structure TabsJ (w : World) (n : Nat) (x : World) (lv : Value) (tvs : List Value) (Fs : List BF) : Prop where
  kp : Kp No w x
  row : x.ownsRow w.heap.size 43 1 lv tvs.length tvs
  len : Fs.length = tvs.length
  tabs : ∀ (i : Nat) (t : Value) (F : BF), tvs[i]? = some t → Fs[i]? = some F → Tb w.heap.size x t (tab n F)

section
variable {w : World} {n : Nat} {x y : World} {lv : Value} {tvs : List Value} {Fs : List BF}
theorem TabsJ.no (j : TabsJ w n x lv tvs Fs) (k : Kp No x y) : TabsJ w n y lv tvs Fs := ⟨j.kp.trans_no k, ownsRow_kp j.row k (fun _ _ z => z), j.len, fun i t F h1 h2 => (j.tabs i t F h1 h2).no k⟩
theorem TabsJ.at (j : TabsJ w n x lv tvs Fs) {i : Nat} (hi : i < tvs.length) : Tb w.heap.size x (tvs.getD i (.bool false)) (Go.Proofs.Ytifompekiockmaa.tab n (Fs.getD i (fun _ => false))) := by
  have h2 := j.len
  exact j.tabs i _ _ (by simp [hi]) (by simp [show i < Fs.length by omega])
theorem TabsJ.cell {g m c : Nat} (j : TabsJ w n x (.slice (some ⟨g, 0, none⟩) m c) tvs Fs) {i : Nat} (hi : i < tvs.length) : x.cell? ⟨g, i, none⟩ = some (tvs.getD i (.bool false)) := by
  obtain ⟨g', cap, hv, _, _, _, hc, _⟩ := ownsRow_open j.row (by omega)
  cases hv
  exact hc i _ (by simp [hi])
theorem TabsJ.push {A : World} {g cap : Nat} {t : Value} {F : BF} (j : TabsJ w n x lv tvs Fs) (ht : Tb w.heap.size x t (Go.Proofs.Ytifompekiockmaa.tab n F)) (kA : Kp No x A) (hown : y.ownsRow w.heap.size 43 1 (.slice (some ⟨g, 0, none⟩) (tvs.length + 1) cap) (tvs.length + 1) (tvs ++ [t])) (hgrow : A.grownBy y lv.ownBlock) :
    TabsJ w n y (.slice (some ⟨g, 0, none⟩) (tvs.length + 1) cap) (tvs ++ [t]) (Fs ++ [F]) := by
  have kg : Kp (fun k => lv.ownBlock = some k) x y := grown_no kA hgrow
  have tb : ∀ u T, Tb w.heap.size x u T → Tb w.heap.size y u T := fun u T h => h.kp kg (fun k e z => row_ne (row_zero h) (row_zero j.row) (by decide) e z)
  have hl := j.len
  refine ⟨j.kp.trans (A' := fun k => lv.ownBlock = some k) (fun k e => .inr (j.row.lt k e).1) kg, by simpa using hown, by simp [hl], fun i u G h1 h2 => ?_⟩
  rw [List.getElem?_append] at h1 h2
  rw [hl] at h2
  split at h1
  · rename_i hi
    rw [if_pos hi] at h2
    exact tb _ _ (j.tabs i u G h1 h2)
  · rename_i hi
    rw [if_neg hi] at h2
    have h0 : i - tvs.length = 0 := by
      rcases Nat.eq_zero_or_pos (i - tvs.length) with e | e
      · exact e
      · rw [List.getElem?_eq_none (by simp; omega)] at h1; cases h1
    rw [h0] at h1 h2
    simp at h1 h2
    subst h1; subst h2
    exact tb _ _ ht
end

def RLoadPost (w : World) (n : Nat) (xs : List Trip) (e : Ending) (w' : World) : Prop :=
  (okAll n xs ∧ ∃ rv lv tvs, e = .returned (.tuple #[rv, .int .i64 0]) ∧ tvs.length = xs.length + 2 ∧ SrcAt w' rv 1 xs.length (tvs.drop 2) ∧ TabsJ w n w' lv tvs (loadF xs)) ∨
  (¬ okAll n xs ∧ e = .returned (.tuple #[.slice none 0 0, .int .i64 1]) ∧ Kp No w w')

def RLoR (w : World) (n : Nat) (xs : List Trip) (gk : Nat) (s6 s7 : Value) (x : World) : Prop :=
  ∃ k lv tvs, k + gk = xs.length ∧ s7 = .int .i64 (k : Int) ∧ lv = s6 ∧ tvs.length = k + 2 ∧ (∀ i, i < k → okAt n i (xs.getD i (0, 0, 0))) ∧ TabsJ w n x lv tvs (loadF (xs.take k))

theorem TabsJ.start {w w1 w2 : World} {n : Nat} {t0 t1 : Value} (h0 : Tb w.heap.size w1 t0 (tab n (fun _ => false))) (k1 : Kp No w w1) (h1 : Tb w1.heap.size w2 t1 (tab n (fun _ => true))) (k2 : Kp No w1 w2) :
    TabsJ w n (w2.alloc (.cells #[t0, t1] 43)) (.slice (some ⟨w2.heap.size, 0, none⟩) 2 2) [t0, t1] (loadF []) := by
  have s1 := k1.size
  have s2 := k2.size
  refine ⟨(k1.trans_no k2).trans_no (Kp.alloc _), ⟨rfl, .inr ⟨w2.heap.size, 2, #[t0, t1], rfl, by omega, heap_alloc_new _ _, Nat.le_refl _, by simp [maxLen_val], rfl, rfl⟩⟩, rfl, fun i t F h1' h2' => ?_⟩
  match i, h1', h2' with
  | 0, h1', h2' =>
    simp [loadF] at h1' h2'
    subst h1'; subst h2'
    exact (h0.no k2).no (Kp.alloc _)
  | 1, h1', h2' =>
    simp [loadF] at h1' h2'
    subst h1'; subst h2'
    exact (h1.no (Kp.alloc _)).mono s1
  | i + 2, h1', _ => simp at h1'

/-- With the box of a round. -/
structure TabsB (w : World) (n : Nat) (x : World) (lv : Value) (tvs : List Value) (Fs : List BF) (b : Nat) (t : Trip) : Prop where
  j : TabsJ w n x lv tvs Fs
  bx : x.heap[b]? = some (boxN t)
theorem TabsB.no {w : World} {n : Nat} {x y : World} {lv : Value} {tvs : List Value} {Fs : List BF} {b : Nat} {t : Trip} (j : TabsB w n x lv tvs Fs b t) (k : Kp No x y) : TabsB w n y lv tvs Fs b t := ⟨j.j.no k, by rw [k.block _ (heap_lt j.bx) (fun z => z)]; exact j.bx⟩
theorem TabsB.cells {w : World} {n : Nat} {x : World} {ga m ca : Nat} {tvs : List Value} {Fs : List BF} {b : Nat} {t : Trip} (j : TabsB w n x (.slice (some ⟨ga, 0, none⟩) m ca) tvs Fs b t) {lo hi : Nat} (hl : lo < tvs.length) (hh : hi < tvs.length) :
    x.cell? ⟨b, 0, none⟩ = some (.int .i64 t.1) ∧ x.cell? ⟨b, 1, none⟩ = some (.int .i64 t.2.1) ∧ x.cell? ⟨b, 2, none⟩ = some (.int .i64 t.2.2) ∧ x.cell? ⟨ga, lo, none⟩ = some (tvs.getD lo (.bool false)) ∧ x.cell? ⟨ga, hi, none⟩ = some (tvs.getD hi (.bool false)) := by
  refine ⟨?_, ?_, ?_, j.j.cell hl, j.j.cell hh⟩ <;> simp [World.cell?, j.bx]
theorem TabsB.keep {w : World} {n : Nat} {y z : World} {ga m ca : Nat} {tvs : List Value} {Fs : List BF} {b : Nat} {t : Trip} {o : Obj} (j : TabsB w n y (.slice (some ⟨ga, 0, none⟩) m ca) tvs Fs b t) (hgrow : (y.alloc o).grownBy z (some ga))
    (hkept : ∀ j, j < tvs.length → z.cell? ⟨ga, j, none⟩ = (y.alloc o).cell? ⟨ga, j, none⟩) {lo hi : Nat} (hl : lo < tvs.length) (hh : hi < tvs.length) :
    z.cell? ⟨b, 0, none⟩ = some (.int .i64 t.1) ∧ z.cell? ⟨b, 1, none⟩ = some (.int .i64 t.2.1) ∧ z.cell? ⟨b, 2, none⟩ = some (.int .i64 t.2.2) ∧ z.cell? ⟨ga, lo, none⟩ = some (tvs.getD lo (.bool false)) ∧ z.cell? ⟨ga, hi, none⟩ = some (tvs.getD hi (.bool false)) :=
  lo_keep ((j.no (Kp.alloc o)).cells hl hh) hgrow hkept hl hh (Nat.lt_of_lt_of_le (heap_lt j.bx) (by simp)) (fun e => row_box j.j.row j.bx (by decide) (by rw [e]; rfl))

set_option maxRecDepth 100000 in
set_option maxHeartbeats 4000000 in
theorem RLoad_ok {n : Nat} (xs : List Trip) {nv : Value} {w : World} (hn : n ≤ 6) (hxs : xs.length ≤ 20000) (src : SrcAt w nv 3 xs.length (xs.flatMap cells3)) :
    Calls Try.prog 27 #[nv, .int .i64 (n : Int)] w (RLoadPost w n xs) := by
  obtain ⟨i0, hi0, hz0, hz1, hz2⟩ := info_parts info_func'
  have HS := Lib.hid src
  obtain ⟨an, cn, rfl⟩ := src.form
  clear src
  have hlim : ¬ (20000 : Int) < xs.length := by omega
  go_enter Try.func27, Try.ntmps27
  go_wp2_with fail
  refine (Const_ok n false hn w).mono ?_
  rintro e w1 ⟨t0, rfl, h0, k1⟩
  obtain ⟨g0, c0, rfl, _⟩ := h0.form
  have H0 := Lib.hid h0
  have K1 := Lib.hid k1
  clear h0 k1
  go_wp2_with fail
  refine (Const_ok n true hn w1).mono ?_
  rintro e w2 ⟨t1, rfl, h1, k2⟩
  obtain ⟨g1, c1, rfl, _⟩ := h1.form
  have J0 := Lib.hid (TabsJ.start H0.out K1.out h1 k2)
  clear h1 k2 H0 K1
  go_wp2_with fail
  go_loopg [6, 7] xs.length (fun gk s6 s7 x => RLoR w n xs gk s6 s7 x)
  case atStart => exact ⟨0, _, _, by omega, rfl, rfl, rfl, fun i hi => by omega, J0.out⟩
  case round =>
    clear J0
    obtain ⟨k, lv, tvs, hk, rfl, e6, htl, hpre, j⟩ := hrel
    subst e6
    by_cases hlt : k < xs.length
    · obtain ⟨g, o, q, hv, hg, hcell⟩ := (HS.out.no j.kp).cellAt (by omega)
      cases hv
      obtain ⟨e0, e1, e2⟩ := cells3_get xs hlt
      have f0 : wr.cell? ⟨g, o + k * 3, none⟩ = some (.int .i64 (xs.getD k (0, 0, 0)).1) := hcell _ _ e0
      have f1 : wr.cell? ⟨g, o + k * 3 + 1, none⟩ = some (.int .i64 (xs.getD k (0, 0, 0)).2.1) := hcell _ _ e1
      have f2 : wr.cell? ⟨g, o + k * 3 + 2, none⟩ = some (.int .i64 (xs.getD k (0, 0, 0)).2.2) := hcell _ _ e2
      have hlti : (k : Int) < xs.length := by omega
      have hkb : (k : Int) ≤ 20000 := by omega
      have HK := Lib.hid hk
      have BAD : Hid (¬ okAt n k (xs.getD k (0, 0, 0)) → ∀ m, RLoadPost w n xs (.returned (.tuple #[.slice none 0 0, .int .i64 1])) (wr.alloc m)) := Lib.hid (fun h m => .inr ⟨fun ha => h (ha k hlt), rfl, j.kp.trans_no (Kp.alloc _)⟩)
      have hlf : loadF (xs.take (k + 1)) = loadStep (loadF (xs.take k)) (xs.getD k (0, 0, 0)) := by
        have e : xs.getD k (0, 0, 0) = xs[k] := by simp [hlt]
        rw [List.take_succ_eq_append_getElem hlt, loadF_snoc, e]
      obtain ⟨ga, ca, rfl, _⟩ := ownsRow_open j.row (by omega)
      have FIN : Hid (okAt n k (xs.getD k (0, 0, 0)) → ∀ (y A z : World) (g cap : Nat) (t : Value), TabsJ w n y (.slice (some ⟨ga, 0, none⟩) tvs.length ca) tvs (loadF (xs.take k)) → Tb w.heap.size y t (tab n (fun a => if a (xs.getD k (0, 0, 0)).1.toNat then (loadF (xs.take k)).getD (xs.getD k (0, 0, 0)).2.2.toNat (fun _ => false) a else (loadF (xs.take k)).getD (xs.getD k (0, 0, 0)).2.1.toNat (fun _ => false) a)) → Kp No y A →
          z.ownsRow w.heap.size 43 1 (.slice (some ⟨g, 0, none⟩) (tvs.length + 1) cap) (tvs.length + 1) (tvs ++ [t]) → A.grownBy z (some ga) → RLoR w n xs (xs.length - (k + 1)) (.slice (some ⟨g, 0, none⟩) (tvs.length + 1) cap) (.int .i64 ((k + 1 : Nat) : Int)) z) := Lib.hid (fun hok y A z g cap t jy ht kA hown hgrow => by
        refine ⟨k + 1, _, tvs ++ [t], by omega, rfl, rfl, by simp [htl], fun i hi => ?_, ?_⟩
        · rcases Nat.lt_or_ge i k with x | x
          · exact hpre i x
          · rw [show i = k by omega]; exact hok
        · rw [hlf]
          exact jy.push ht kA hown hgrow)
      have J := Lib.hid j
      clear hk hpre hcell e0 e1 e2 hlf
      generalize loadF (xs.take k) = Fs at *
      generalize xs.getD k (0, 0, 0) = x at *
      have HTL := Lib.hid htl
      have htb : tvs.length ≤ 30000 := by omega
      by_cases q0 : x.1 < 0
      · have RB := Lib.hid (BAD.out (fun h => by have := h.1.1; omega))
        clear BAD FIN j htl
        go_wp2_with fail
        go_ret2
        exact RB.out _
      have q0' : decide (x.1 < 0) = false := decide_eq_false q0
      by_cases q9 : (n : Int) ≤ x.1
      · have RB := Lib.hid (BAD.out (fun h => by have := h.1.2; omega))
        clear BAD FIN j htl
        go_wp2_with fail
        go_ret2
        exact RB.out _
      have q9' : decide ((n : Int) ≤ x.1) = false := decide_eq_false q9
      by_cases q1 : x.2.1 < 0
      · have RB := Lib.hid (BAD.out (fun h => by have := h.2.1.1; omega))
        clear BAD FIN j htl
        go_wp2_with fail
        go_ret2
        exact RB.out _
      have q1' : decide (x.2.1 < 0) = false := decide_eq_false q1
      by_cases q2 : (k : Int) + 1 < x.2.1
      · have RB := Lib.hid (BAD.out (fun h => by have := h.2.1.2; omega))
        clear BAD FIN j htl
        go_wp2_with fail
        go_ret2
        exact RB.out _
      have q2' : decide ((k : Int) + 1 < x.2.1) = false := decide_eq_false q2
      by_cases q3 : x.2.2 < 0
      · have RB := Lib.hid (BAD.out (fun h => by have := h.2.2.1; omega))
        clear BAD FIN j htl
        go_wp2_with fail
        go_ret2
        exact RB.out _
      have q3' : decide (x.2.2 < 0) = false := decide_eq_false q3
      by_cases q4 : (k : Int) + 1 < x.2.2
      · have RB := Lib.hid (BAD.out (fun h => by have := h.2.2.2; omega))
        clear BAD FIN j htl
        go_wp2_with fail
        go_ret2
        exact RB.out _
      have q4' : decide ((k : Int) + 1 < x.2.2) = false := decide_eq_false q4
      have FN := Lib.hid (FIN.out ⟨⟨by omega, by omega⟩, ⟨by omega, by omega⟩, ⟨by omega, by omega⟩⟩)
      clear BAD FIN
      obtain ⟨xv, xl, xh⟩ := x
      simp only at q0 q9 q1 q2 q3 q4 f0 f1 f2 q0' q9' q1' q2' q3' q4'
      obtain ⟨v, rfl⟩ := Int.eq_ofNat_of_zero_le (show 0 ≤ xv by omega)
      obtain ⟨lo, rfl⟩ := Int.eq_ofNat_of_zero_le (show 0 ≤ xl by omega)
      obtain ⟨hi, rfl⟩ := Int.eq_ofNat_of_zero_le (show 0 ≤ xh by omega)
      have hlo : lo < tvs.length := by omega
      have hhi : hi < tvs.length := by omega
      have TB0 : TabsB w n ((wr.alloc (boxN ((v : Int), (lo : Int), (hi : Int)))).drew) (.slice (some ⟨ga, 0, none⟩) tvs.length ca) tvs Fs wr.heap.size ((v : Int), (lo : Int), (hi : Int)) := TabsB.no ⟨j.no (Kp.alloc _), heap_alloc_new _ _⟩ Kp.drew
      have HB := Lib.hid TB0
      have S0 := Lib.hid (TB0.cells hlo hhi)
      have CELLS : Hid (∀ y, TabsB w n y (.slice (some ⟨ga, 0, none⟩) tvs.length ca) tvs Fs wr.heap.size ((v : Int), (lo : Int), (hi : Int)) → _) := Lib.hid (fun y h => TabsB.cells h hlo hhi)
      have KEEPX : Hid (∀ y z o, TabsB w n y (.slice (some ⟨ga, 0, none⟩) tvs.length ca) tvs Fs wr.heap.size ((v : Int), (lo : Int), (hi : Int)) → (y.alloc o).grownBy z (some ga) → (∀ j, j < tvs.length → z.cell? ⟨ga, j, none⟩ = (y.alloc o).cell? ⟨ga, j, none⟩) → _) := Lib.hid (fun y z o j h1 h2 => j.keep h1 h2 hlo hhi)
      have TT : Hid (∀ y, TabsB w n y (.slice (some ⟨ga, 0, none⟩) tvs.length ca) tvs Fs wr.heap.size ((v : Int), (lo : Int), (hi : Int)) → Tb w.heap.size y (tvs.getD lo (.bool false)) (tab n (Fs.getD lo (fun _ => false))) ∧ Tb w.heap.size y (tvs.getD hi (.bool false)) (tab n (Fs.getD hi (fun _ => false)))) := Lib.hid (fun y h => ⟨h.j.at hlo, h.j.at hhi⟩)
      have VC := Lib.hid (RVar_ok n v hn (by omega) ((wr.alloc (boxN ((v : Int), (lo : Int), (hi : Int)))).drew))
      have hwr : w.heap.size ≤ wr.heap.size := j.kp.size
      have hloi : (lo : Int) < tvs.length := by omega
      have hhii : (hi : Int) < tvs.length := by omega
      simp only [Int.toNat_natCast] at FN
      clear j htl TB0 J
      generalize tvs.getD lo (.bool false) = tl at *
      generalize tvs.getD hi (.bool false) = th at *
      generalize Fs.getD lo (fun _ => false) = Fl at *
      generalize Fs.getD hi (fun _ => false) = Fh at *
      go_upto_region 10 with (fail)
      clear f0 f1 f2
      go_region_held3 (fun y => y.cell? ⟨wr.heap.size, 0, none⟩ = some (.int .i64 (v : Int)) ∧ y.cell? ⟨wr.heap.size, 1, none⟩ = some (.int .i64 (lo : Int)) ∧ y.cell? ⟨wr.heap.size, 2, none⟩ = some (.int .i64 (hi : Int)) ∧ y.cell? ⟨ga, lo, none⟩ = some tl ∧ y.cell? ⟨ga, hi, none⟩ = some th) (first | exact S0.out | exact SA.out | exact SB.out | exact SC2.out | exact SD2.out)
        (first | (go_at_call 54; (with_reducible refine VC.out.mono ?_); rintro e wa ⟨ta, rfl, hta, ka⟩; have JA := Lib.hid (HB.out.no ka); have SA := Lib.hid (CELLS.out _ JA.out); have HTA := Lib.hid hta; clear hta ka) | (go_at_call 53; refine (RIte_ok hn HTA.out (TT.out _ JA.out).2 (TT.out _ JA.out).1).mono ?_; rintro e wb ⟨tb, rfl, htb2, kb⟩; obtain ⟨gb, cb, rfl, _⟩ := htb2.form; have JB := Lib.hid (JA.out.no kb); have SB := Lib.hid (CELLS.out _ JB.out); have SC2 := Lib.hid (CELLS.out _ (JB.out.no (Kp.alloc (.cells #[.slice (some ⟨gb, 0, none⟩) (2 ^ n) cb] 43)))); have own := JB.out.j.row; have hwb := JB.out.j.kp.size; have HTB := Lib.hid (htb2.mono JA.out.j.kp.size); clear htb2 kb) | (refine step_append_kept (by rfl) _ _ (by rfl) Try.underlying38 hi0 hz0 hz1 hz2 rfl (by rfl) (own.alloc _) ⟨wb.heap.size, 0, none⟩ 1 (by rfl) (u := .slice (some ⟨gb, 0, none⟩) (2 ^ n) cb) (World.news_of_block (heap_alloc_new _ _)) rfl (by unfold maxLen; omega) (by omega) (by simp; omega) (wb.heap.size + 1) (by simp) ?_; intro g2 cap z hown hgrow hat hlt2 hkept; have NX := Lib.hid (FN.out wb _ z g2 cap _ JB.out.j HTB.out (Kp.alloc _) hown hgrow); have SD2 := Lib.hid (KEEPX.out _ _ _ JB.out hgrow hkept); clear hown hgrow hat hlt2 own hkept))
      all_goals
        go_wp2_with fail
        go_roundg (xs.length - (k + 1))
        case measure => have := HK.out; omega
        case rel => exact NX.out
    · obtain rfl : k = xs.length := by omega
      rw [List.take_length] at j
      obtain ⟨ga, ca, rfl, hca, hcm, ⟨cur, hcur, hcs, htake⟩, hcell, _⟩ := ownsRow_open j.row (by omega)
      have hge : ¬ (xs.length : Int) < xs.length := by omega
      have hcai : (tvs.length : Int) ≤ ca := by omega
      have hcab : (ca : Int) ≤ 9223372036854775807 := by have := maxLen_val; omega
      have h2i : (2 : Int) ≤ tvs.length := by omega
      have P : Hid (∀ rv, SrcAt wr rv 1 xs.length (tvs.drop 2) → RLoadPost w n xs (.returned (.tuple #[rv, .int .i64 0])) wr) := Lib.hid (fun rv h1 => .inl ⟨hpre, rv, _, tvs, rfl, htl, h1, j⟩)
      have SRC : Hid (∀ q, SrcAt wr (.slice (some ⟨ga, 2, none⟩) xs.length q) 1 xs.length (tvs.drop 2)) := Lib.hid (fun q => ⟨_, q, rfl, by simp [htl], .inr ⟨ga, 2, rfl, heap_lt hcur, fun i u hu => by
        refine hcell (2 + i) u ?_
        rw [List.getElem?_drop] at hu
        exact hu⟩⟩)
      have SRC0 : Hid (xs.length = 0 → ∀ ao q, SrcAt wr (.slice ao 0 q) 1 xs.length (tvs.drop 2)) := Lib.hid (fun h ao q => ⟨ao, q, by rw [h], by simp [htl], .inl h⟩)
      have HRL := Lib.hid htl
      clear hk htl j hcell hcur hcs htake hcm hpre
      have hr2 : tvs.length - 2 = xs.length := by have := HRL.out; omega
      have HR2 := Lib.hid hr2
      clear hr2
      by_cases hca2 : ca = 2
      · have hx0 : xs.length = 0 := by have := HRL.out; omega
        have HX0 := Lib.hid hx0
        clear hx0
        go_wp2_with fail
        go_ret2
        refine P.out _ ?_
        rw [HR2.out]
        have := SRC0.out HX0.out (some ⟨ga, 0, none⟩)
        rw [HX0.out] at this ⊢
        exact this _
      · go_wp2_with fail
        go_ret2
        refine P.out _ ?_
        rw [HR2.out]
        exact SRC.out _

end Go.Proofs.Ytifompekiockmaa
