/-
  Walks: the law ReorderUndoes.
-/
import Derived.Test.YtngbodmooddjbaaAwr
import Derived.Test.YtngbodmooddjbaaFront
import Derived.Test.YtngbodmooddjbaaKeep
namespace Go.Proofs.Ytngbodmooddjbaa
open Go.RowKit

theorem visF_le {M M1 : Mgr} (h : M.WF) (e : ∀ f, M1.vis f = M.vis f) : (visF M1).length ≤ M.nodes.length := by
  have := Mgr.nodup_length (visF M1) (List.range M.shown.length) (List.nodup_range.sublist List.filter_sublist) (fun f hf => by
    have hv : M1.vis f = true := by simpa using (List.mem_filter.1 hf).2
    rw [e] at hv
    rw [List.mem_range]
    rcases Nat.lt_or_ge f M.shown.length with h1 | h1
    · exact h1
    · unfold Mgr.vis at hv
      rw [List.getD_eq_getElem?_getD, List.getElem?_eq_none h1] at hv
      cases hv)
  rw [List.length_range, h.sh] at this
  exact this
theorem three_pow {n : Nat} (h : n ≤ 6) : 3 ^ n ≤ 729 := by
  have : 3 ^ n ≤ 3 ^ 6 := Nat.pow_le_pow_right (by omega) h
  simpa using this
/-- The bound of 'Arrange' where there are at most k visible functions. -/
theorem ar_bound {M : Mgr} {k : Nat} (hn : M.n ≤ 6) (h : (visF M).length ≤ k) : (visF M).length * 3 ^ M.n + M.n + 2 ≤ k * 729 + 8 := by
  have h1 : (visF M).length * 3 ^ M.n ≤ k * 729 := Nat.mul_le_mul h (three_pow hn)
  omega
def swV (n : Nat) (v : Int) : Bool := decide (0 ≤ v ∧ v < (n : Int) - 1)
theorem Swap_any {p : Nat} {M : Mgr} {L : Lay} {w : World} (v : Int) (R : Rep w p M L) (hn : M.n ≤ 6) (hk : (visF M).length ≤ 50000) (hm : M.nodes.length ≤ 500000000) :
    Calls Try.prog 34 #[ptr p, .int .i64 v] w fun e w' => e = .returned (.bool (swV M.n v)) ∧ ArS w p M L (if swV M.n v then swO M.order v.toNat else M.order) w' := by
  by_cases h : 0 ≤ v ∧ v < (M.n : Int) - 1
  · have e : swV M.n v = true := decide_eq_true h
    rw [e, if_pos rfl]
    obtain ⟨k, rfl⟩ := Int.eq_ofNat_of_zero_le h.1
    exact Swap_ok k R (by omega) (by omega) (by have := ar_bound hn hk; unfold big; omega) (by omega)
  · have e : swV M.n v = false := decide_eq_false h
    rw [e]
    refine (Swap_bad v R (by omega) (by omega)).mono ?_
    rintro e w' ⟨rfl, k⟩
    exact ⟨rfl, ArS.same R k⟩
theorem swap_back {M : Mgr} (v : Int) : (if swV M.n v then swO (if swV M.n v then swO M.order v.toNat else M.order) v.toNat else (if swV M.n v then swO M.order v.toNat else M.order)) = M.order := by
  cases e : swV M.n v with
  | false => rfl
  | true =>
    have h : 0 ≤ v ∧ v < (M.n : Int) - 1 := of_decide_eq_true e
    have hl : M.order.length = M.n := rfl
    rw [if_pos rfl, if_pos rfl]
    exact swO_twice (by omega)
/-- A row of one's own stays. -/
theorem ArS.row {w w' : World} {p : Nat} {M : Mgr} {L : Lay} {l : List Nat} (h : ArS w p M L l w') {b0 e size n : Nat} {v : Value} {xs : List Value} (r : w.ownsRow b0 e size v n xs) (o : ∀ k, v.ownBlock = some k → ¬ L.at p k) : w'.ownsRow b0 e size v n xs := by
  obtain ⟨_, _, _, _, _, _, _, kp, _⟩ := h
  exact ownsRow_kp r kp o

/-- The state behind a change, with rows of one's own. -/
structure UnJ (w : World) (p : Nat) (M0 : Mgr) (fv nv rv : Value) (fs : List Int) (N : List Nd) (R : List Int) (l : List Nat) (y : World) (M : Mgr) (L : Lay) : Prop where
  own : Own w p y M L
  order : M.order = l
  vis : ∀ f, M.vis f = M0.vis f
  sem : ∀ f, M0.vis f = true → ∀ a, M.sem f a = M0.sem f a
  fr : y.ownsRow w.heap.size 27 1 fv fs.length (fs.map intV)
  nr : y.ownsRow w.heap.size 125 3 nv N.length (N.flatMap ndCells)
  rr : y.ownsRow w.heap.size 3 1 rv R.length (R.map intV)
  off : ∀ k, (fv.ownBlock = some k ∨ nv.ownBlock = some k ∨ rv.ownBlock = some k) → ¬ L.at p k
theorem UnJ.no {w : World} {p : Nat} {M0 : Mgr} {fv nv rv : Value} {fs : List Int} {N : List Nd} {R : List Int} {l : List Nat} {y z : World} {M : Mgr} {L : Lay} (s : UnJ w p M0 fv nv rv fs N R l y M L) (k : Kp No y z) : UnJ w p M0 fv nv rv fs N R l z M L :=
  ⟨s.own.no k, s.order, s.vis, s.sem, ownsRow_kp s.fr k (fun _ _ x => x), ownsRow_kp s.nr k (fun _ _ x => x), ownsRow_kp s.rr k (fun _ _ x => x), s.off⟩
theorem UnJ.ar {w : World} {p : Nat} {M0 : Mgr} {fv nv rv : Value} {fs : List Int} {N : List Nd} {R : List Int} {l l' : List Nat} {y z : World} {M : Mgr} {L : Lay} (s : UnJ w p M0 fv nv rv fs N R l y M L) (h : ArS y p M L l' z) :
    ∃ M' L', UnJ w p M0 fv nv rv fs N R l' z M' L' ∧ M'.nodes.length ≤ M.nodes.length + ((visF M).length * 3 ^ M.n + M.n + 2) := by
  have r1 := h.row s.fr (fun k e => s.off k (.inl e))
  have r2 := h.row s.nr (fun k e => s.off k (.inr (.inl e)))
  have r3 := h.row s.rr (fun k e => s.off k (.inr (.inr e)))
  obtain ⟨M', L', r, o, v, sm, n, kp, fr⟩ := h
  refine ⟨M', L', ⟨⟨r, s.own.kp.trans (A' := L.at p) (fun x hx => .inr (s.own.own x hx)) kp, fun x hx => ?_⟩, o, fun f => by rw [v, s.vis], fun f hf a => ?_, r1, r2, r3, fun k hk hx => ?_⟩, n⟩
  · rcases fr x hx with h1 | h1
    · exact s.own.own x h1
    · have := s.own.kp.size; omega
  · rw [sm f (by rw [s.vis]; exact hf), s.sem f hf]
  · have hl : k < y.heap.size := by
      rcases hk with e | e | e
      · exact (s.fr.lt k e).2
      · exact (s.nr.lt k e).2
      · exact (s.rr.lt k e).2
    rcases fr k hx with h1 | h1
    · exact s.off k hk h1
    · omega

set_option maxRecDepth 1000000 in
set_option maxHeartbeats 8000000 in
theorem ReorderUndoes_walk (x : Int) (l : List Stp) {sv : Value} {w : World} (hs : StepsAt w sv l) (lv : Int) :
    Calls Try.prog 7 #[.int .i64 x, sv, .int .i64 lv] w fun e w' => e = .returned (.bool true) ∧ Kp No w w' := by
  obtain ⟨hn1, hn6⟩ := nv_le x
  have VA := Lib.hid (fun w => Vars_ok x w)
  generalize nv x = n at *
  have NEW := Lib.hid (fun (w0 : World) (k0 : Kp No w w0) => New_own (n := n) (by omega) k0)
  have ST := Lib.hid hs
  obtain ⟨ao, c, rfl, _⟩ := hs
  by_cases h40 : l.length ≤ 30
  case neg =>
    have hl : (30 : Int) < l.length := by omega
    go_enter Try.func7, Try.ntmps7
    go_wp2_with fail
    refine (rawake_ok w).mono ?_
    rintro e w0 ⟨rfl, k0⟩
    have K0 := Lib.hid k0
    clear k0
    go_wp2_with fail
    go_ret
    exact ⟨rfl, K0.out⟩
  have hl : ¬ (30 : Int) < l.length := by omega
  go_enter Try.func7, Try.ntmps7
  go_wp2_with fail
  refine (rawake_ok w).mono ?_
  rintro e w0 ⟨rfl, k0⟩
  have K0 := Lib.hid k0
  clear k0
  go_wp2_with fail
  refine (VA.out w0).mono ?_
  rintro e w0' ⟨rfl, rfl⟩
  go_wp2_with fail
  refine (NEW.out w0 K0.out).mono ?_
  rintro e w1 ⟨p, L1, rfl, s1, k1⟩
  have S1 := Lib.hid s1
  clear s1 k1 NEW
  go_wp2_with fail
  refine (Run_own hn6 hn1 S1.out (by omega) ST.out).mono ?_
  rintro e w2 ⟨fv, tv, L2, tvs, rfl, fr⟩
  obtain ⟨rp, hFl⟩ := run_rp hn1 hn6 l (by omega)
  generalize runM (Mgr.new n) n l = X at *
  generalize runF n l = Fs at *
  obtain ⟨M, fs⟩ := X
  simp only at fr rp
  have hpos := rp.pos
  have hfl : fs.length ≤ 100 := by rw [← fr.flen]; omega
  obtain ⟨gf, cf, gt, ct, rfl, rfl, lf, lt⟩ := fr.forms (by omega)
  have VALID : Hid (∀ f, f ∈ fs → M.valid f = true) := Lib.hid (fun f hf => by
    obtain ⟨i, hi, rfl⟩ := List.getElem_of_mem hf
    have hF : i < Fs.length := by rw [rp.len]; exact hi
    exact (rp.sem i _ _ (List.getElem?_eq_getElem hi) (List.getElem?_eq_getElem hF)).1)
  have SAV := Lib.hid (Save_ok fs fr.own.rep (SrcAt.of_row fr.frow) (by omega) (by have := rp.cost; unfold big; omega))
  have NLEN : Hid ((saveN M (saveM M fs).1.2).length ≤ 50000) := Lib.hid (by
    rw [saveN_len]
    have h1 := (saveM_seen rp.wf fs).len rp.wf
    have := rp.cost
    omega)
  have RLEN : Hid ((saveM M fs).2.length = fs.length) := Lib.hid (saveM_len M fs)
  have COST := Lib.hid rp.cost
  have NN := Lib.hid rp.nn
  have FR := Lib.hid fr
  clear fr rp hFl lf lt
  go_wp2_with fail
  refine SAV.out.mono ?_
  rintro e w3 ⟨nv3, rv3, rfl, nrow, rrow, k3⟩
  have hw2 := FR.out.own.kp.size
  have J3 : Hid (UnJ w p M (.slice (some ⟨gf, 0, none⟩) fs.length cf) nv3 rv3 fs (saveN M (saveM M fs).1.2) (saveM M fs).2 M.order w3 M L2) := Lib.hid
    ⟨FR.out.own.no k3, rfl, fun _ => rfl, fun _ _ _ => rfl, ownsRow_kp FR.out.frow k3 (fun _ _ x => x), ownsRow_mono nrow hw2, ownsRow_mono rrow hw2, fun k hk hx => by
      have h1 := FR.out.own.rep.lt k hx
      rcases hk with e | e | e
      · exact FR.out.fo k e hx
      · have := (nrow.lt k e).1; omega
      · have := (rrow.lt k e).1; omega⟩
  obtain ⟨an, cn, rfl, _⟩ := ownsRow_len (row_zero nrow)
  obtain ⟨ar, cr, rfl, _⟩ := ownsRow_len (row_zero rrow)
  have hv3 : (visF M).length ≤ 50000 := Nat.le_trans (visF_le FR.out.own.rep.wf (fun _ => rfl)) COST.out
  have W1 := Lib.hid (Swap_any lv J3.out.own.rep (by rw [NN.out]; exact hn6) hv3 (by have := COST.out; omega))
  have HV3 := Lib.hid hv3
  clear nrow rrow k3 hw2 SAV hv3
  go_wp2_with fail
  refine W1.out.mono ?_
  rintro e w4 ⟨rfl, h4⟩
  obtain ⟨M4, L4, j4, n4⟩ := J3.out.ar h4
  have J4 := Lib.hid j4
  have E4 : Hid (M4.n = M.n) := Lib.hid (by unfold Mgr.n; rw [j4.order]; split <;> simp [swO_len])
  have hm4 : M4.nodes.length ≤ 500000000 := by
    have h1 := ar_bound (M := M) (by rw [NN.out]; exact hn6) HV3.out
    have h2 := COST.out
    omega
  have W2 := Lib.hid (Swap_any lv J4.out.own.rep (by rw [E4.out, NN.out]; exact hn6) (Nat.le_trans (visF_le FR.out.own.rep.wf J4.out.vis) COST.out) hm4)
  rw [E4.out] at W2
  have HM4 := Lib.hid hm4
  clear h4 j4 n4 hm4 W1
  go_wp2_with fail
  refine W2.out.mono ?_
  rintro e w5 ⟨rfl, h5⟩
  rw [J4.out.order, swap_back] at h5
  obtain ⟨M5, L5, j5, n5⟩ := J4.out.ar h5
  have J5 := Lib.hid j5
  have hm5 : M5.nodes.length < big := by
    have h1 := ar_bound (M := M4) (by rw [E4.out, NN.out]; exact hn6) (Nat.le_trans (visF_le FR.out.own.rep.wf J4.out.vis) COST.out)
    have h2 := HM4.out
    unfold big
    omega
  have SAME := Lib.hid (save_same (M := M) (M' := M5) FR.out.own.rep.wf j5.own.rep.wf j5.order fs (fun f hf => by
    have h1 := VALID.out f hf
    obtain ⟨m, rfl, _, hm⟩ := Mgr.valid_nat FR.out.own.rep.wf h1
    refine ⟨h1, ?_, fun a => (j5.sem m hm a).symm⟩
    unfold Mgr.valid at h1 ⊢
    rw [j5.vis]; exact h1))
  have SAV := Lib.hid (Save_ok fs j5.own.rep (SrcAt.of_row j5.fr) (by omega) hm5)
  rw [← SAME.out.1, ← SAME.out.2] at SAV
  clear h5 j5 n5 hm5 W2 SAME J3 J4
  go_wp2_with fail
  refine SAV.out.mono ?_
  rintro e w6 ⟨nv6, rv6, rfl, nrow, rrow, k6⟩
  have J6 := Lib.hid (J5.out.no k6)
  have NE := Lib.hid (Nodes_eq (SrcAt.of_row J6.out.nr) (SrcAt.of_row nrow) (by have := NLEN.out; omega))
  have IE : Hid (∀ m, Calls Try.prog 36 #[.slice ar (saveM M fs).2.length cr, rv6] (w6.drewN m) fun e w' => e = .returned (.bool true) ∧ ∃ m', w' = (w6.drewN m).drewN m') := Lib.hid (fun m => by
    have h := Ints_ok ((SrcAt.of_row J6.out.rr).no (Kp.drewN m)) ((SrcAt.of_row rrow).no (Kp.drewN m)) (by rw [RLEN.out]; omega)
    rw [decide_eq_true rfl] at h
    exact h)
  obtain ⟨an6, cn6, rfl, _⟩ := ownsRow_len (row_zero nrow)
  obtain ⟨ar6, cr6, rfl, _⟩ := ownsRow_len (row_zero rrow)
  have KF := Lib.hid J6.out.own.kp
  obtain ⟨b, hb⟩ : ∃ b, swV M.n lv = b := ⟨_, rfl⟩
  rw [NN.out] at hb
  have HB := Lib.hid hb
  clear nrow rrow k6 J5 J6 SAV
  rw [NN.out, hb]
  clear hb
  have hn6i : (n : Int) ≤ 6 := by omega
  by_cases c0 : lv < 0
  · obtain rfl : b = false := by rw [← HB.out]; exact decide_eq_false (by omega)
    have c0' : ¬ 0 ≤ lv := by omega
    go_wp2_with fail
    refine NE.out.mono ?_
    rintro e w7 ⟨rfl, m7, rfl⟩
    go_wp2_with fail
    refine (IE.out m7).mono ?_
    rintro e w8 ⟨rfl, m8, rfl⟩
    go_wp2_with fail
    go_ret
    exact ⟨rfl, KF.out.trans_no (Kp.drewN _)⟩
  · by_cases c1 : (n : Int) - 1 ≤ lv
    · obtain rfl : b = false := by rw [← HB.out]; exact decide_eq_false (by omega)
      have c0' : 0 ≤ lv := by omega
      have c1' : ¬ lv < (n : Int) - 1 := by omega

      go_wp2_with fail
      refine NE.out.mono ?_
      rintro e w7 ⟨rfl, m7, rfl⟩
      go_wp2_with fail
      refine (IE.out m7).mono ?_
      rintro e w8 ⟨rfl, m8, rfl⟩
      go_wp2_with fail
      go_ret
      refine ⟨?_, KF.out.trans_no (Kp.drewN _)⟩
      show Ending.returned (.bool (!decide (lv < (n : Int) - 1))) = _
      rw [decide_eq_false (show ¬ lv < (n : Int) - 1 by omega)]
      rfl
    · obtain rfl : b = true := by rw [← HB.out]; exact decide_eq_true (by omega)
      have c0' : 0 ≤ lv := by omega
      have c1' : lv < (n : Int) - 1 := by omega
      go_wp2_with fail
      refine NE.out.mono ?_
      rintro e w7 ⟨rfl, m7, rfl⟩
      go_wp2_with fail
      refine (IE.out m7).mono ?_
      rintro e w8 ⟨rfl, m8, rfl⟩
      go_wp2_with fail
      go_ret
      exact ⟨rfl, KF.out.trans_no (Kp.drewN _)⟩

end Go.Proofs.Ytngbodmooddjbaa
