/-
  Walks: the laws BddAgreesWithTruthTables and BddCanonical.
-/
import Derived.Test.YtngbodmooddjbaaRunJ
import Derived.Test.YtngbodmooddjbaaRun
import Derived.Deep.RegionHeld3
namespace Go.Proofs.Ytngbodmooddjbaa
open Go.RowKit

/-- 'Vars': 1 to 6. -/
def nv (x : Int) : Nat := 1 + pick x 6
theorem nv_le (x : Int) : 1 ≤ nv x ∧ nv x ≤ 6 := by have := pick_lt x (n := 6) (by omega); unfold nv; omega

set_option maxHeartbeats 400000 in
theorem Vars_ok (x : Int) (w : World) : Calls Try.prog 18 #[.int .i64 x] w fun e w' => e = .returned (.int .i64 (nv x : Int)) ∧ w = w' := by
  have hp := pick_lt x (n := 6) (by omega)
  have HP := Lib.hid (fun w => Pick_ok x 6 w (by omega) (by omega))
  have HN : Hid ((1 : Int) + (pick x 6 : Int) = (nv x : Int)) := Lib.hid (by unfold nv; omega)
  have hp0 : (0 : Int) ≤ (pick x 6 : Int) := by omega
  have hp1 : (pick x 6 : Int) < 6 := by omega
  clear hp
  go_enter Try.func18, Try.ntmps18
  go_wp2_with fail
  refine (HP.out w).mono ?_
  rintro e w' ⟨rfl, rfl⟩
  go_wp2_with fail
  go_ret
  exact ⟨by rw [← HN.out]; rfl, rfl⟩

/-- The values of 'Assign'. -/
def asgL (n i : Nat) : List Bool := (List.range n).map (bitsOf i)
theorem asgL_succ (n i : Nat) : asgL (n + 1) i = asgL n i ++ [i.testBit n] := by simp [asgL, List.range_succ, bitsOf]
theorem asgL_len (n i : Nat) : (asgL n i).length = n := by simp [asgL]
theorem asgL_at {n i v : Nat} (h : v < n) : asg (asgL n i) v = bitsOf i v := by simp [asg, asgL, h]

def AsR (w : World) (n i gk : Nat) (s5 s6 : Value) (wr : World) : Prop :=
  ∃ k v, k + gk = n ∧ s6 = .int .i64 (k : Int) ∧ v = s5 ∧ wr.ownsRow w.heap.size 4 1 v k ((asgL k i).map .bool) ∧ Kp No w wr

def AsPost (w : World) (l : List Bool) (e : Ending) (w' : World) : Prop := ∃ v, e = .returned v ∧ Bools w' v l ∧ Kp No w w'

set_option maxRecDepth 100000 in
set_option maxHeartbeats 1000000 in
theorem Assign_ok (n i : Nat) (hn : n ≤ 6) (hi : i < 64) (w : World) : Calls Try.prog 90 #[.int .i64 (n : Int), .int .i64 (i : Int)] w (AsPost w (asgL n i)) := by
  obtain ⟨j0, hj0, hy0, hy1, hy2⟩ := info_parts info_bool
  go_enter Try.func90, Try.ntmps90
  go_wp2
  go_loopg [5, 6] n (fun gk s5 s6 wr => AsR w n i gk s5 s6 wr)
  case atStart => exact ⟨0, _, by omega, rfl, rfl, World.ownsRow_nil _ _ _ _, Kp.refl _ _⟩
  case round =>
    obtain ⟨k, v, hk, rfl, e5, own, kp⟩ := hrel
    subst e5
    by_cases hlt : k < n
    · have hsz := kp.size
      have hbit := bit_at (i := i) (v := k) hi (by omega)
      have HK := Lib.hid hk
      have KP := Lib.hid kp
      have OWN := Lib.hid own
      have hlti : (k : Int) < n := by omega
      clear hk kp
      go_upto_region 4 with (at_builtin; refine wpList_append_lies _ rfl (.tmp 12) (.tmp 18) _ rfl w.heap.size 4 j0 _ 1 1 Try.underlying44 hj0 hy0 hy1 hy2 rfl (by omega) v k ((asgL k i).map .bool) rfl (own.alloc _) ⟨wr.heap.size, 0, none⟩ 1 1 [.bool (i.testBit k)] rfl rfl (World.news_of_block (heap_alloc_new _ _)) (by simp [Value.oneCell']) (by omega) (by unfold maxLen; omega) (by omega) (by simp; omega) (wr.heap.size + 1) (by simp) ?_; intro g cap w1 hown hgrow hat hlt2)
      have JN : Hid (AsR w n i (n - (k + 1)) (.slice (some ⟨g, 0, none⟩) (k + 1) cap) (.int .i64 ((k + 1 : Nat) : Int)) w1) := by
        have kg : Kp (fun x => v.ownBlock = some x) wr w1 := grown_no (Kp.alloc _) hgrow
        refine ⟨k + 1, _, by omega, rfl, rfl, ?_, KP.out.trans (A' := fun x => v.ownBlock = some x) (fun x h => .inr (OWN.out.lt x h).1) kg⟩
        rw [asgL_succ, List.map_append]
        exact hown
      clear hown hgrow hat hlt2 own hbit
      go_wp2
      go_roundg (n - (k + 1))
      case measure => have := HK.out; omega
      case rel => exact JN.out
    · obtain rfl : k = n := by omega
      have P : Hid (AsPost w (asgL k i) (.returned v) wr) := ⟨v, rfl, Bools.of_row (by rw [asgL_len]; exact own), kp⟩
      have hlti : ¬ (k : Int) < k := by omega
      clear own kp hk
      go_wp2
      go_ret
      exact P.out

def AgR (w : World) (N gk : Nat) (s9 : Value) (wr : World) : Prop := ∃ k, k + gk = N ∧ s9 = .int .i64 (k : Int) ∧ Kp No w wr

set_option maxRecDepth 100000 in
set_option maxHeartbeats 2000000 in
theorem Agrees_ok {p n : Nat} {M : Mgr} {L : Lay} (f : Int) {F : BF} {tv : Value} {B : Nat} {w : World} (hn : n ≤ 6) (R : Rep w p M L) (hf : M.valid f = true) (hs : ∀ a, M.sem f.toNat a = F a) (hF : Upto n F) (ht : Tb B w tv (tab n F)) :
    Calls Try.prog 46 #[ptr p, .int .i64 f, tv, .int .i64 (n : Int)] w fun e w' => e = .returned (.bool true) ∧ Kp No w w' := by
  have hN := pow_le_64 hn
  obtain ⟨g, c, rfl, hgl⟩ := ht.form
  have CELL : Hid (∀ wr, Kp No w wr → ∀ i, i < 2 ^ n → wr.cell? ⟨g, i, none⟩ = some (.bool (F (bitsOf i)))) := Lib.hid (fun wr kp i hi => ht.cellAt kp hi)
  have EV : Hid (∀ wr v i, Kp No w wr → Bools wr v (asgL n i) → Calls Try.prog 76 #[ptr p, .int .i64 f, v] wr fun e w' => e = .returned (.bool (F (bitsOf i))) ∧ Kp No wr w') := Lib.hid (fun wr v i kp hb => by
    have := Eval_ok f (R.no kp) hb
    have e : M.evalM f (asgL n i) = F (bitsOf i) := by
      unfold Mgr.evalM; rw [if_pos hf, hs]
      exact hF _ _ (fun v hv => asgL_at hv)
    rw [e] at this
    exact this)
  have VA : Hid (∀ wr, Kp No w wr → Calls Try.prog 51 #[ptr p, .int .i64 f] wr fun e w' => e = .returned (.bool true) ∧ wr = w') := Lib.hid (fun wr kp => valid_as f true (R.no kp) hf)
  clear ht R hf hs hF
  generalize hNN : 2 ^ n = N at *
  clear hNN
  go_enter Try.func46, Try.ntmps46
  go_wp2
  go_loopg [9] N (fun gk s9 wr => AgR w N gk s9 wr)
  case atStart => exact ⟨0, by omega, rfl, Kp.refl _ _⟩
  case round =>
    obtain ⟨k, hk, rfl, kp⟩ := hrel
    by_cases hlt : k < N
    · have S0 := Lib.hid (CELL.out wr.drew (kp.trans_no Kp.drew) k hlt)
      have AS := Lib.hid (fun x => Assign_ok n k hn (by omega) x)
      have KP := Lib.hid (kp.trans_no (Kp.drew))
      have HK := Lib.hid hk
      have hlti : (k : Int) < N := by omega
      clear hk kp
      have EVK := Lib.hid (fun wr v => EV.out wr v k)
      have CK := Lib.hid (fun wr h => CELL.out wr h k hlt)
      clear EV CELL
      generalize F (bitsOf k) = b at *
      go_upto_region 4 with (fail)
      go_region_held3 (fun x => x.cell? ⟨g, k, none⟩ = some (.bool b)) (first | exact S0.out | exact SA.out | exact SB.out)
        (first | (go_at_call 90; refine (AS.out _).mono ?_; rintro e wa ⟨va, rfl, hba, ka⟩; have KA := Lib.hid (KP.out.trans_no ka); have SA := Lib.hid (CK.out _ KA.out); have BA := Lib.hid hba; clear hba ka) | (go_at_call 76; refine (EVK.out _ _ KA.out BA.out).mono ?_; rintro e wb ⟨rfl, kb⟩; have KB := Lib.hid (KA.out.trans_no kb); have SB := Lib.hid (CK.out _ KB.out); clear kb))
      all_goals
        cases b <;>
        · go_wp2_with fail
          go_roundg (N - (k + 1))
          case measure => have := HK.out; omega
          case rel => exact ⟨k + 1, by omega, by go_num, KB.out⟩
    · obtain rfl : k = N := by omega
      have KP := Lib.hid kp
      have hlti : ¬ (k : Int) < k := by omega
      clear kp hk
      go_wp2_with fail
      refine (VA.out _ KP.out).mono ?_
      rintro e w' ⟨rfl, rfl⟩
      go_wp2_with fail
      go_ret
      exact ⟨rfl, KP.out⟩

/-! ### Equal -/
def eqT (n : Nat) (F G : BF) : Bool := decide (tab n F = tab n G)

def EqR (w : World) (N : Nat) (t u : List Bool) (gk : Nat) (s5 : Value) (wr : World) : Prop :=
  ∃ k m, k + gk = N ∧ s5 = .int .i64 (k : Int) ∧ wr = w.drewN m ∧ ∀ i : Nat, i < k → t[i]? = u[i]?

set_option maxRecDepth 100000 in
set_option maxHeartbeats 1000000 in
theorem REqual_ok {n : Nat} (hn : n ≤ 6) {B1 B2 : Nat} {fv gv : Value} {F G : BF} {w : World} (hf : Tb B1 w fv (tab n F)) (hg : Tb B2 w gv (tab n G)) :
    Calls Try.prog 130 #[fv, gv] w fun e w' => e = .returned (.bool (eqT n F G)) ∧ ∃ m, w' = w.drewN m := by
  have hN := pow_le_64 hn
  obtain ⟨g1, c1, rfl, l1⟩ := hf.form
  obtain ⟨g2, c2, rfl, l2⟩ := hg.form
  have C1 : Hid (∀ m i, i < 2 ^ n → (w.drewN m).cell? ⟨g1, i, none⟩ = some (.bool (F (bitsOf i)))) := Lib.hid (fun m i hi => hf.cellAt (Kp.drewN m) hi)
  have C2 : Hid (∀ m i, i < 2 ^ n → (w.drewN m).cell? ⟨g2, i, none⟩ = some (.bool (G (bitsOf i)))) := Lib.hid (fun m i hi => hg.cellAt (Kp.drewN m) hi)
  have TF : Hid (∀ i, i < 2 ^ n → (tab n F)[i]? = some (F (bitsOf i)) ∧ (tab n G)[i]? = some (G (bitsOf i))) := Lib.hid (fun i hi => ⟨tab_get F hi, tab_get G hi⟩)
  have YES : Hid ((∀ i, i < 2 ^ n → (tab n F)[i]? = (tab n G)[i]?) → eqT n F G = true) := Lib.hid (fun h => by
    unfold eqT
    refine decide_eq_true (List.ext_getElem? (fun i => ?_))
    rcases Nat.lt_or_ge i (2 ^ n) with hi | hi
    · exact h i hi
    · rw [List.getElem?_eq_none (by simpa using hi), List.getElem?_eq_none (by simpa using hi)])
  have NO : Hid (∀ i : Nat, (tab n F)[i]? ≠ (tab n G)[i]? → eqT n F G = false) := Lib.hid (fun i h => by
    unfold eqT
    exact decide_eq_false (fun e => h (by rw [e])))
  clear hf hg
  generalize hT : tab n F = T at *
  generalize hU : tab n G = U at *
  generalize eqT n F G = r at *
  clear hT hU
  generalize 2 ^ n = N at *
  go_enter Try.func130, Try.ntmps130
  go_wp2
  go_loopg [5] N (fun gk s5 wr => EqR w N T U gk s5 wr)
  case atStart => exact ⟨0, 0, by omega, rfl, rfl, fun i hi => by omega⟩
  case round =>
    obtain ⟨k, m, hk, rfl, hw, hpre⟩ := hrel
    have HW := Lib.hid hw
    by_cases hlt : k < N
    · have f1 := C1.out m k hlt
      have f2 := C2.out m k hlt
      rw [← hw] at f1 f2
      clear hw
      obtain ⟨t1, t2⟩ := TF.out k hlt
      have hlti : (k : Int) < N := by omega
      have HK := Lib.hid hk
      by_cases hb : F (bitsOf k) = G (bitsOf k)
      · have NX : Hid (∀ m', EqR w N T U (N - (k + 1)) (.int .i64 ((k + 1 : Nat) : Int)) (wr.drewN m')) := Lib.hid (fun m' => ⟨k + 1, m + m', by omega, rfl, by rw [HW.out, World.drewN_drewN], fun i hi => by
          rcases Nat.lt_or_ge i k with h | h
          · exact hpre i h
          · obtain rfl : i = k := by omega
            rw [t1, t2, hb]⟩)
        rw [← hb] at f2
        clear hk hpre t1 t2 hb
        generalize F (bitsOf k) = b at *
        go_wp2
        go_quiet (fail)
        go_wp2
        go_roundg (N - (k + 1))
        case measure => have := HK.out; omega
        case rel => exact NX.out _
      · have R := Lib.hid (NO.out k (by rw [t1, t2]; simpa using hb))
        have hb2 : (F (bitsOf k) == G (bitsOf k)) = false := by simpa using hb
        clear hk hpre t1 t2 hb
        generalize F (bitsOf k) = b at *
        generalize G (bitsOf k) = c at *
        go_wp2
        go_quiet (fail)
        go_wp2
        go_ret
        exact ⟨by rw [R.out]; rfl, _, by rw [HW.out, World.drewN_drewN]⟩
    · obtain rfl : k = N := by omega
      have R := Lib.hid (YES.out hpre)
      have hlti : ¬ (k : Int) < k := by omega
      clear hk hpre hw
      go_wp2
      go_ret
      exact ⟨by rw [R.out]; rfl, m, HW.out⟩

end Go.Proofs.Ytngbodmooddjbaa

namespace Go.Proofs.Ytngbodmooddjbaa
open Go.RowKit

theorem Mgr.new_n (n : Nat) : (Mgr.new n).n = n := by simp [Mgr.n, Mgr.new]
theorem nvars_nat {n : Nat} (h : n ≤ 256) : nvars (n : Int) = n := by unfold nvars; rw [if_neg (by omega), if_neg (by omega)]; omega

/-- The state behind 'Run': the law began at w. -/
structure Front (w : World) (p n : Nat) (wr : World) (M : Mgr) (L : Lay) (fv tv : Value) (fs : List Int) (Fs : List BF) (tvs : List Value) : Prop where
  own : Own w p wr M L
  frow : wr.ownsRow w.heap.size 27 1 fv fs.length (fs.map intV)
  trow : wr.ownsRow w.heap.size 45 1 tv tvs.length tvs
  fo : Off L p fv
  tof : Off L p tv
  tlen : tvs.length = fs.length
  flen : Fs.length = fs.length
  tabs : ∀ (i : Nat) (x : Value) (F : BF), tvs[i]? = some x → Fs[i]? = some F → Tb w.heap.size wr x (tab n F) ∧ Off L p x

section
variable {w : World} {p n : Nat} {L0 : Lay} {w1 wr w' : World} {M0 M M' : Mgr} {L : Lay} {fv tv : Value} {fs : List Int} {Fs : List BF} {tvs : List Value}

theorem Front.of_run (s : Own w p w1 M0 L0) (j : RJ w1 p n L0 wr M L fv tv fs Fs tvs) : Front w p n wr M L fv tv fs Fs tvs := by
  have hs := s.kp.size
  refine ⟨⟨j.sd.rep, s.kp.trans (A' := L0.at p) (fun x hx => .inr (s.own x hx)) j.sd.kp, fun x hx => ?_⟩, ownsRow_mono j.frow hs, ownsRow_mono j.trow hs, j.fo, j.tof, j.tlen, j.flen, fun i x F h1 h2 => ⟨(j.tabs i x F h1 h2).1.mono hs, (j.tabs i x F h1 h2).2⟩⟩
  rcases j.sd.fr x hx with h | h
  · exact s.own x h
  · omega

theorem Front.no (j : Front w p n wr M L fv tv fs Fs tvs) (k : Kp No wr w') : Front w p n w' M L fv tv fs Fs tvs :=
  ⟨j.own.no k, ownsRow_kp j.frow k (fun _ _ x => x), ownsRow_kp j.trow k (fun _ _ x => x), j.fo, j.tof, j.tlen, j.flen, fun i x F h1 h2 => ⟨(j.tabs i x F h1 h2).1.no k, (j.tabs i x F h1 h2).2⟩⟩

theorem Front.step {v : Value} {e : Ending} (j : Front w p n wr M L fv tv fs Fs tvs) (h : Ret p L wr M' v e w') : e = .returned v ∧ ∃ L', Front w p n w' M' L' fv tv fs Fs tvs := by
  obtain ⟨L1, he, r1, k1, f1⟩ := h
  refine ⟨he, L1, ⟨⟨r1, j.own.kp.trans (A' := L.at p) (fun x hx => .inr (j.own.own x hx)) k1, fun x hx => ?_⟩, ownsRow_kp j.frow k1 j.fo, ownsRow_kp j.trow k1 j.tof, j.fo.step f1 (fun k hk => (j.frow.lt k hk).2), j.tof.step f1 (fun k hk => (j.trow.lt k hk).2), j.tlen, j.flen,
    fun i x F h1 h2 => ⟨(j.tabs i x F h1 h2).1.kp k1 (j.tabs i x F h1 h2).2, (j.tabs i x F h1 h2).2.step f1 (fun k hk => ((j.tabs i x F h1 h2).1.lt k hk).2)⟩⟩⟩
  rcases f1 x hx with h1 | h1
  · exact j.own.own x h1
  · have := j.own.kp.size; omega

theorem Front.cellF {gf m cf : Nat} (j : Front w p n wr M L (.slice (some ⟨gf, 0, none⟩) m cf) tv fs Fs tvs) {i : Nat} (hi : i < fs.length) : wr.cell? ⟨gf, i, none⟩ = some (.int .i64 (fs.getD i 0)) := by
  obtain ⟨g, cap, hv, _, _, _, hc, _⟩ := ownsRow_open j.frow (by omega)
  cases hv
  exact hc i _ (by simp [intV, hi])
theorem Front.cellT {gt m ct : Nat} (j : Front w p n wr M L fv (.slice (some ⟨gt, 0, none⟩) m ct) fs Fs tvs) {i : Nat} (hi : i < fs.length) : wr.cell? ⟨gt, i, none⟩ = some (tvs.getD i (.bool false)) := by
  have ht := j.tlen
  obtain ⟨g, cap, hv, _, _, _, hc, _⟩ := ownsRow_open j.trow (by omega)
  cases hv
  exact hc i _ (by simp [show i < tvs.length by omega])
theorem Front.tabAt (j : Front w p n wr M L fv tv fs Fs tvs) {i : Nat} (hi : i < fs.length) : Tb w.heap.size wr (tvs.getD i (.bool false)) (Go.Proofs.Ytngbodmooddjbaa.tab n (Fs.getD i (fun _ => false))) ∧ Off L p (tvs.getD i (.bool false)) := by
  have h1 := j.tlen
  have h2 := j.flen
  exact j.tabs i _ _ (by simp [show i < tvs.length by omega]) (by simp [show i < Fs.length by omega])
theorem Front.forms (j : Front w p n wr M L fv tv fs Fs tvs) (h : 0 < fs.length) : ∃ gf cf gt ct, fv = .slice (some ⟨gf, 0, none⟩) fs.length cf ∧ tv = .slice (some ⟨gt, 0, none⟩) fs.length ct ∧ gf < wr.heap.size ∧ gt < wr.heap.size := by
  obtain ⟨gf, cf, h1, _⟩ := ownsRow_open j.frow h
  have ht := j.tlen
  obtain ⟨gt, ct, h2, _⟩ := ownsRow_open j.trow (by omega)
  refine ⟨gf, cf, gt, ct, h1, by rw [h2, ht], (j.frow.lt gf (by rw [h1]; rfl)).2, (j.trow.lt gt (by rw [h2]; rfl)).2⟩
end

/-- The lists of a run. -/
theorem run_rp {n : Nat} (h1 : 1 ≤ n) (h6 : n ≤ 6) (l : List Stp) (h40 : l.length ≤ 40) : RP n 50000 (runM (Mgr.new n) n l).1 (runM (Mgr.new n) n l).2 (runF n l) ∧ (runF n l).length = n + 2 + l.length := by
  have := run_spec (Mgr.new_wf n) (Mgr.new_n n) h6 h1 (c := 2) (by simp [Mgr.new]) l l.length (Nat.le_refl _)
  rw [List.take_length] at this
  refine ⟨⟨this.wf, this.nn, this.len, this.pos, this.sem, ?_⟩, runF_length n l⟩
  have := this.cost
  omega

/-- 'New' of a law. -/
theorem New_own {n : Nat} (hn : n ≤ 256) {w w0 : World} (k0 : Kp No w w0) : Calls Try.prog 12 #[.int .i64 (n : Int)] w0 fun e w1 => ∃ p L, e = .returned (ptr p) ∧ Own w p w1 (Mgr.new n) L ∧ Kp No w w1 := by
  have := New_ok (n : Int) w0
  rw [nvars_nat hn] at this
  refine this.mono ?_
  rintro e w1 ⟨p, L1, rfl, R1, k1, o1⟩
  exact ⟨p, L1, rfl, ⟨R1, k0.trans_no k1, fun x hx => Nat.le_trans k0.size (o1 x hx)⟩, k0.trans_no k1⟩

/-- 'Run' of a law. -/
theorem Run_own {p n : Nat} {L : Lay} (hn : n ≤ 6) (hn1 : 1 ≤ n) {l : List Stp} {sv : Value} {w w1 : World} (s : Own w p w1 (Mgr.new n) L) (hlen : l.length ≤ 40) (hs : StepsAt w sv l) :
    Calls Try.prog 19 #[ptr p, .int .i64 (n : Int), sv] w1 fun e w2 => ∃ fv tv L2 tvs, e = .returned (.tuple #[fv, tv]) ∧ Front w p n w2 (runM (Mgr.new n) n l).1 L2 fv tv (runM (Mgr.new n) n l).2 (runF n l) tvs := by
  have hoff : ∀ g o n c, sv = .slice (some ⟨g, o, none⟩) n c → l ≠ [] → g < w.heap.size := fun g o n c e hne => by
    obtain ⟨ao, c', hv, h⟩ := hs
    rcases h with h | ⟨g', o', rfl, hg, _⟩
    · exact (hne h).elim
    · rw [hv] at e; cases e; exact hg
  have hs1 : StepsAt w1 sv l := hs.kp s.kp (fun _ _ _ _ _ _ x => x)
  refine (Run_ok hn hn1 l s.rep (Mgr.new_n n) hlen (by simp [Mgr.new]) hs1 (fun he g o n' c e hx => ?_)).mono ?_
  · have := hoff g o n' c e he
    have := s.own g hx
    omega
  · rintro e w2 ⟨fv, tv, L2, tvs, rfl, j⟩
    exact ⟨fv, tv, L2, tvs, rfl, Front.of_run s j⟩

end Go.Proofs.Ytngbodmooddjbaa

namespace Go.Proofs.Ytngbodmooddjbaa
open Go.RowKit

/-- What is known of the Refs of a manager: pairs of a Ref and its function; a bound on the nodes. -/
structure Bk (n c : Nat) (M : Mgr) (B : List (Int × BF)) : Prop where
  wf : M.WF
  nn : M.n = n
  cost : M.nodes.length ≤ c
  sem : ∀ x, x ∈ B → M.valid x.1 = true ∧ (∀ a, M.sem x.1.toNat a = x.2 a) ∧ Upto n x.2

theorem Bk.at {n c : Nat} {M : Mgr} {B : List (Int × BF)} (b : Bk n c M B) {f : Int} {F : BF} (h : (f, F) ∈ B) : M.valid f = true ∧ (∀ a, M.sem f.toNat a = F a) ∧ Upto n F := b.sem _ h

theorem Bk.push {n c k : Nat} {M M' : Mgr} {B : List (Int × BF)} {F : BF} {r : Int} (b : Bk n c M B) (o : Mgr.OpS M F k M' r) (hF : Upto n F) {c' : Nat} (hc : c + k ≤ c') : Bk n c' M' ((r, F) :: B) := by
  refine ⟨o.wf, by rw [o.n, b.nn], by have := o.len; have := b.cost; omega, fun x hx => ?_⟩
  rcases List.mem_cons.1 hx with rfl | hx
  · exact ⟨o.ok, o.sem, hF⟩
  · obtain ⟨a1, a2, a3⟩ := b.sem x hx
    obtain ⟨b1, b2⟩ := o.old x.1 a1
    exact ⟨b1, fun a => by rw [b2, a2], a3⟩

theorem Bk.sub {n c : Nat} {M : Mgr} {B B' : List (Int × BF)} (b : Bk n c M B) (h : ∀ x, x ∈ B' → x ∈ B) : Bk n c M B' := ⟨b.wf, b.nn, b.cost, fun x hx => b.sem x (h x hx)⟩

/-- Equal functions, equal Refs. -/
theorem Bk.eq {n c : Nat} {M : Mgr} {B : List (Int × BF)} (b : Bk n c M B) {f g : Int} {F G : BF} (hf : (f, F) ∈ B) (hg : (g, G) ∈ B) (e : ∀ a, F a = G a) : f = g := by
  obtain ⟨v1, s1, _⟩ := b.at hf
  obtain ⟨v2, s2, _⟩ := b.at hg
  exact Mgr.valid_canon b.wf v1 v2 (fun a => by rw [s1, s2]; exact e a)
theorem Bk.eq_conv {n c : Nat} {M : Mgr} {B : List (Int × BF)} (b : Bk n c M B) {f : Int} {F G : BF} (hf : (f, F) ∈ B) (hg : (f, G) ∈ B) : ∀ a, F a = G a := by
  obtain ⟨v1, s1, _⟩ := b.at hf
  obtain ⟨v2, s2, _⟩ := b.at hg
  exact fun a => by rw [← s1, ← s2]

/-- The constants. -/
theorem Bk.consts {n c : Nat} {M : Mgr} {B : List (Int × BF)} (b : Bk n c M B) : Bk n c M ((0, fun _ => false) :: (1, fun _ => true) :: B) := by
  refine ⟨b.wf, b.nn, b.cost, fun x hx => ?_⟩
  rcases List.mem_cons.1 hx with rfl | hx
  · exact ⟨Mgr.valid_zero b.wf, fun a => Mgr.sem_zero M a, fun _ _ _ => rfl⟩
  · rcases List.mem_cons.1 hx with rfl | hx
    · exact ⟨Mgr.valid_one b.wf, fun a => Mgr.sem_one M a, fun _ _ _ => rfl⟩
    · exact b.sem x hx

/-- The Refs of a run. -/
theorem Bk.of_rp {n c : Nat} {M : Mgr} {fs : List Int} {Fs : List BF} (h : RP n c M fs Fs) : Bk n c M (fs.zip Fs) := by
  refine ⟨h.wf, h.nn, h.cost, fun x hx => ?_⟩
  obtain ⟨i, hi, e⟩ := List.getElem_of_mem hx
  have hi3 : i < min fs.length Fs.length := by simpa using hi
  have hi2 : i < fs.length ∧ i < Fs.length := by omega
  rw [List.getElem_zip] at e
  subst e
  exact h.sem i _ _ (by simp [hi2.1]) (by simp [hi2.2])
theorem mem_zip {fs : List Int} {Fs : List BF} {i : Nat} (hi : i < fs.length) (hl : Fs.length = fs.length) : (fs.getD i 0, Fs.getD i (fun _ => false)) ∈ fs.zip Fs := by
  have h2 : i < Fs.length := by omega
  have : (fs.zip Fs)[i]? = some (fs[i], Fs[i]) := by rw [List.getElem?_zip_eq_some]; simp [hi, h2]
  have := List.mem_of_getElem? this
  simpa [hi, h2] using this

/-- What an operation leaves. -/
def OpB (p n c : Nat) (L : Lay) (wr : World) (F : BF) (B : List (Int × BF)) (e : Ending) (w' : World) : Prop :=
  ∃ r M', Ret p L wr M' (.int .i64 r) e w' ∧ Bk n c M' ((r, F) :: B) ∧ 0 ≤ r

theorem Bk.nonneg {n c : Nat} {M : Mgr} {B : List (Int × BF)} (b : Bk n c M B) {r : Int} {F : BF} (h : (r, F) ∈ B) : 0 ≤ r := by
  obtain ⟨v, _⟩ := b.at h
  obtain ⟨k, hk, _⟩ := Mgr.valid_nat b.wf v
  omega

section
variable {p n c : Nat} {M : Mgr} {L : Lay} {wr : World} {B : List (Int × BF)} {f g h : Int} {F G H : BF}

theorem Upto.not (u : Upto n F) : Upto n (fun a => !F a) := fun a b hab => by show (!_) = (!_); rw [u a b hab]
theorem Upto.and (u : Upto n F) (v : Upto n G) : Upto n (fun a => F a && G a) := fun a b hab => by show (_ && _) = (_ && _); rw [u a b hab, v a b hab]
theorem Upto.or (u : Upto n F) (v : Upto n G) : Upto n (fun a => F a || G a) := fun a b hab => by show (_ || _) = (_ || _); rw [u a b hab, v a b hab]
theorem Upto.xor (u : Upto n F) (v : Upto n G) : Upto n (fun a => F a ^^ G a) := fun a b hab => by show (_ ^^ _) = (_ ^^ _); rw [u a b hab, v a b hab]
theorem Upto.ite (u : Upto n F) (v : Upto n G) (x : Upto n H) : Upto n (fun a => if F a then G a else H a) := fun a b hab => by show (if _ then _ else _) = (if _ then _ else _); rw [u a b hab, v a b hab, x a b hab]
theorem Upto.upd {v : Nat} {b : Bool} (u : Upto n F) : Upto n (fun a => F (Mgr.upd a v b)) := fun a a' hab => u _ _ (fun x hx => by
  unfold Mgr.upd; split
  · rfl
  · exact hab x hx)

/-- From the spec of an operation to its contract. -/
theorem OpB.of {k : Nat} {M' : Mgr} {r : Int} {e : Ending} {w' : World} (b : Bk n c M B) (o : Mgr.OpS M F k M' r) (hF : Upto n F) {c' : Nat} (hc : c + k ≤ c') (h : Ret p L wr M' (.int .i64 r) e w') : OpB p n c' L wr F B e w' :=
  have b' := b.push o hF hc
  ⟨r, M', h, b', b'.nonneg (.head _)⟩

theorem NotB (hn : n ≤ 6) (R : Rep wr p M L) (b : Bk n c M B) (hc : c ≤ 1000000) (hf : (f, F) ∈ B) : Calls Try.prog 27 #[ptr p, .int .i64 f] wr (OpB p n (c + 768) L wr (fun a => !F a) B) := by
  obtain ⟨v1, s1, u1⟩ := b.at hf
  have o := Mgr.notM_ops b.wf v1 (F := fun a => !F a) (fun a => by rw [s1]) (Mgr.states_any (u1.not.reads b.nn))
  rw [b.nn] at o
  have := n_cost hn
  have := o.len
  have := b.cost
  exact (Not_ok f R (by unfold big; omega)).mono (fun e w' h => OpB.of b o u1.not (by omega) h)
theorem AndB (hn : n ≤ 6) (R : Rep wr p M L) (b : Bk n c M B) (hc : c ≤ 1000000) (hf : (f, F) ∈ B) (hg : (g, G) ∈ B) : Calls Try.prog 15 #[ptr p, .int .i64 f, .int .i64 g] wr (OpB p n (c + 768) L wr (fun a => F a && G a) B) := by
  obtain ⟨v1, s1, u1⟩ := b.at hf
  obtain ⟨v2, s2, u2⟩ := b.at hg
  have o := Mgr.andM_ops b.wf v1 v2 (F := fun a => F a && G a) (fun a => by rw [s1, s2]) (Mgr.states_any ((u1.and u2).reads b.nn))
  rw [b.nn] at o
  have := n_cost hn
  have := o.len
  have := b.cost
  exact (And_ok f g R (by unfold big; omega)).mono (fun e w' h => OpB.of b o (u1.and u2) (by omega) h)
theorem OrB (hn : n ≤ 6) (R : Rep wr p M L) (b : Bk n c M B) (hc : c ≤ 1000000) (hf : (f, F) ∈ B) (hg : (g, G) ∈ B) : Calls Try.prog 13 #[ptr p, .int .i64 f, .int .i64 g] wr (OpB p n (c + 768) L wr (fun a => F a || G a) B) := by
  obtain ⟨v1, s1, u1⟩ := b.at hf
  obtain ⟨v2, s2, u2⟩ := b.at hg
  have o := Mgr.orM_ops b.wf v1 v2 (F := fun a => F a || G a) (fun a => by rw [s1, s2]) (Mgr.states_any ((u1.or u2).reads b.nn))
  rw [b.nn] at o
  have := n_cost hn
  have := o.len
  have := b.cost
  exact (Or_ok f g R (by unfold big; omega)).mono (fun e w' h => OpB.of b o (u1.or u2) (by omega) h)
theorem XorB (hn : n ≤ 6) (R : Rep wr p M L) (b : Bk n c M B) (hc : c ≤ 1000000) (hf : (f, F) ∈ B) (hg : (g, G) ∈ B) : Calls Try.prog 64 #[ptr p, .int .i64 f, .int .i64 g] wr (OpB p n (c + 768) L wr (fun a => F a ^^ G a) B) := by
  obtain ⟨v1, s1, u1⟩ := b.at hf
  obtain ⟨v2, s2, u2⟩ := b.at hg
  have ut : Upto n (fun a => !M.sem g.toNat a) := fun a b hab => by show (!_) = (!_); rw [s2, s2, u2 a b hab]
  have o := Mgr.xorM_ops b.wf v1 v2 (F := fun a => F a ^^ G a) (fun a => by rw [s1, s2]) (Mgr.states_any ((u1.xor u2).reads b.nn)) (Mgr.states_any (ut.reads b.nn))
  rw [b.nn] at o
  have := n_cost hn
  have := o.len
  have := b.cost
  exact (Xor_ok f g R (by unfold big; omega)).mono (fun e w' h => OpB.of b o (u1.xor u2) (by omega) h)
theorem IteB (hn : n ≤ 6) (R : Rep wr p M L) (b : Bk n c M B) (hc : c ≤ 1000000) (hf : (f, F) ∈ B) (hg : (g, G) ∈ B) (hh : (h, H) ∈ B) :
    Calls Try.prog 50 #[ptr p, .int .i64 f, .int .i64 g, .int .i64 h] wr (OpB p n (c + 768) L wr (fun a => if F a then G a else H a) B) := by
  obtain ⟨v1, s1, u1⟩ := b.at hf
  obtain ⟨v2, s2, u2⟩ := b.at hg
  obtain ⟨v3, s3, u3⟩ := b.at hh
  have o := Mgr.iteM_ops b.wf v1 v2 v3 (F := fun a => if F a then G a else H a) (fun a => by rw [s1, s2, s3]) (Mgr.states_any ((u1.ite u2 u3).reads b.nn))
  rw [b.nn] at o
  have := n_cost hn
  have := o.len
  have := b.cost
  exact (Ite_ok f g h R (by unfold big; omega)).mono (fun e w' h => OpB.of b o (u1.ite u2 u3) (by omega) h)
theorem RestrictB (hn : n ≤ 6) (R : Rep wr p M L) (b : Bk n c M B) (hc : c ≤ 1000000) (hf : (f, F) ∈ B) {v : Nat} (hv : v < n) (x : Bool) :
    Calls Try.prog 67 #[ptr p, .int .i64 f, .int .i64 (v : Int), .bool x] wr (OpB p n (c + 768) L wr (fun a => F (Mgr.upd a v x)) B) := by
  obtain ⟨v1, s1, u1⟩ := b.at hf
  have o := Mgr.restrictM_ops b.wf v1 (v := v) (by rw [b.nn]; exact hv) x (F := fun a => F (Mgr.upd a v x)) (fun a => by rw [s1]) (Mgr.states_any (u1.upd.reads b.nn))
  rw [b.nn] at o
  have := n_cost hn
  have := o.len
  have := b.cost
  exact (Restrict_ok f (v : Int) x R (by unfold big; omega)).mono (fun e w' h => OpB.of b o u1.upd (by omega) h)
theorem VarB (R : Rep wr p M L) (b : Bk n c M B) (hc : c ≤ 1000000) {v : Nat} (hv : v < n) :
    Calls Try.prog 47 #[ptr p, .int .i64 (v : Int)] wr (OpB p n (c + 768) L wr (fun a => a v) B) := by
  have o := Mgr.varM_ops b.wf (v := v) (by rw [b.nn]; exact hv)
  have := o.len
  have := b.cost
  exact (Var_ok (v : Int) R (by unfold big; omega)).mono (fun e w' h => OpB.of b o (fun a b hab => hab v hv) (by omega) h)
end

/-! ### the index of an assignment -/
def idx : Nat → (Nat → Bool) → Nat
  | 0, _ => 0
  | m + 1, a => idx m a + if a m then 2 ^ m else 0
theorem idx_lt : ∀ (m : Nat) (a : Nat → Bool), idx m a < 2 ^ m
  | 0, _ => by simp [idx]
  | m + 1, a => by have := idx_lt m a; simp only [idx]; rw [Nat.pow_succ]; split <;> omega
theorem idx_bit : ∀ (m : Nat) (a : Nat → Bool) (v : Nat), v < m → bitsOf (idx m a) v = a v
  | 0, _, _, hv => by omega
  | m + 1, a, v, hv => by
    have hl := idx_lt m a
    have ih := idx_bit m a v
    unfold bitsOf at ih ⊢
    simp only [idx]
    by_cases e : v = m
    · subst e
      cases a v
      · simpa using Nat.testBit_lt_two_pow hl
      · rw [if_pos rfl, Nat.add_comm, Nat.testBit_two_pow_add_eq, Nat.testBit_lt_two_pow hl]; rfl
    · have hv' : v < m := by omega
      rw [← ih hv']
      split
      · rw [Nat.add_comm, Nat.testBit_two_pow_add_gt hv']
      · rfl

theorem tab_eq {n : Nat} {F G : BF} (hF : Upto n F) (hG : Upto n G) : tab n F = tab n G ↔ ∀ a, F a = G a := by
  constructor
  · intro e a
    have h := congrArg (fun l => l[idx n a]?) e
    simp only [tab_get _ (idx_lt n a), Option.some.injEq] at h
    rw [hF a (bitsOf (idx n a)) (fun v hv => (idx_bit n a v hv).symm), hG a (bitsOf (idx n a)) (fun v hv => (idx_bit n a v hv).symm), h]
  · intro h
    unfold tab
    simp [h]

theorem Bk.eqT {n c : Nat} {M : Mgr} {B : List (Int × BF)} (b : Bk n c M B) {f g : Int} {F G : BF} (hf : (f, F) ∈ B) (hg : (g, G) ∈ B) : Go.Proofs.Ytngbodmooddjbaa.eqT n F G = (f == g) := by
  obtain ⟨v1, s1, u1⟩ := b.at hf
  obtain ⟨v2, s2, u2⟩ := b.at hg
  rw [Bool.eq_iff_iff]
  unfold Go.Proofs.Ytngbodmooddjbaa.eqT
  rw [decide_eq_true_iff, tab_eq u1 u2, beq_iff_eq]
  constructor
  · exact fun h => b.eq hf hg h
  · intro e a
    rw [← s1, ← s2, e]

end Go.Proofs.Ytngbodmooddjbaa

namespace Go.Proofs.Ytngbodmooddjbaa
open Go.RowKit

structure Side (w : World) (p : Nat) (wr : World) (M : Mgr) (L : Lay) (ws : World) (X : Nat → Prop) : Prop where
  own : Own w p wr M L
  side : ∀ k, X k → k < wr.heap.size ∧ ¬ L.at p k ∧ wr.heap[k]? = ws.heap[k]?

section
variable {w : World} {p : Nat} {wr w' ws : World} {M M' : Mgr} {L : Lay} {X : Nat → Prop}

theorem Side.start (o : Own w p ws M L) : Side w p ws M L ws (fun k => k < ws.heap.size ∧ ¬ L.at p k) := ⟨o, fun _ h => ⟨h.1, h.2, rfl⟩⟩
theorem Side.no (s : Side w p wr M L ws X) (k : Kp No wr w') : Side w p w' M L ws X :=
  ⟨s.own.no k, fun x hx => ⟨Nat.lt_of_lt_of_le (s.side x hx).1 k.size, (s.side x hx).2.1, by rw [k.block x (s.side x hx).1 (fun y => y)]; exact (s.side x hx).2.2⟩⟩
theorem Side.step {v : Value} {e : Ending} (s : Side w p wr M L ws X) (h : Ret p L wr M' v e w') : e = .returned v ∧ ∃ L', Side w p w' M' L' ws X := by
  obtain ⟨L', he, r, k, f⟩ := h
  refine ⟨he, L', ⟨r, s.own.kp.trans (A' := L.at p) (fun x hx => .inr (s.own.own x hx)) k, fun x hx => ?_⟩, fun x hx => ?_⟩
  · rcases f x hx with h1 | h1
    · exact s.own.own x h1
    · have := s.own.kp.size; omega
  · obtain ⟨h1, h2, h3⟩ := s.side x hx
    refine ⟨Nat.lt_of_lt_of_le h1 k.size, fun hl => ?_, by rw [k.block x h1 h2]; exact h3⟩
    rcases f x hl with h4 | h4
    · exact h2 h4
    · omega
theorem Side.row {B e size n : Nat} {v : Value} {xs : List Value} (s : Side w p wr M L ws X) (h : ws.ownsRow B e size v n xs) (hx : ∀ k, v.ownBlock = some k → X k) : wr.ownsRow B e size v n xs := by
  refine ⟨h.1, ?_⟩
  rcases h.2 with h0 | ⟨g, cap, cur, rfl, hb, hg, r⟩
  · exact .inl h0
  · exact .inr ⟨g, cap, cur, rfl, hb, by rw [(s.side g (hx g rfl)).2.2]; exact hg, r⟩
theorem Side.cell {g o : Nat} (s : Side w p wr M L ws X) (hx : X g) : wr.cell? ⟨g, o, none⟩ = ws.cell? ⟨g, o, none⟩ := World.cell?_of_block (s.side g hx).2.2
theorem Side.tab {B : Nat} {v : Value} {t : List Bool} (s : Side w p wr M L ws X) (h : Tb B ws v t) (hx : ∀ k, v.ownBlock = some k → X k) : Tb B wr v t := s.row h hx
end

/-- A row of numbers: its cells. -/
theorem natsRow_cell {w : World} {B e : Nat} {v : Value} {l : List Nat} (h : w.ownsRow B e 1 v l.length (l.map natV)) {i : Nat} (hi : i < l.length) : ∃ g c, v = .slice (some ⟨g, 0, none⟩) l.length c ∧ w.cell? ⟨g, i, none⟩ = some (.int .i64 (l.getD i 0 : Int)) := by
  obtain ⟨g, cap, hv, _, _, _, hc, _⟩ := ownsRow_open h (by omega)
  exact ⟨g, cap, hv, hc i _ (by simp [natV, hi])⟩
theorem natsRow_form {w : World} {B e : Nat} {v : Value} {l : List Nat} (h : w.ownsRow B e 1 v l.length (l.map natV)) : ∃ ao c, v = .slice ao l.length c := by
  obtain ⟨a, c, hv, _⟩ := ownsRow_len (ownsRow_mono h (Nat.zero_le _))
  exact ⟨a, c, hv⟩

end Go.Proofs.Ytngbodmooddjbaa

namespace Go.Proofs.Ytngbodmooddjbaa
open Go.RowKit

/-- A loop that only reads. -/
def LpR (w : World) (N gk : Nat) (s : Value) (wr : World) : Prop := ∃ k, k + gk = N ∧ s = .int .i64 (k : Int) ∧ Kp No w wr

end Go.Proofs.Ytngbodmooddjbaa
