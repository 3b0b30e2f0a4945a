/-
  Walks: 'Vars', 'Assign', 'Agrees' of the package netverifylaw26.
-/
import Derived.Test.YtifompekiockmaaRunJ
import Derived.Deep.RegionHeld3
namespace Go.Proofs.Ytifompekiockmaa
open Go.RowKit

/-- 'Vars': 1 to 6. -/
def nv (x : Int) : Nat := 1 + pick x 6
theorem nv_le (x : Int) : 1 ≤ nv x ∧ nv x ≤ 6 := by have := pick_lt x (n := 6) (by omega); unfold nv; omega

set_option maxHeartbeats 400000 in
theorem Vars_ok (x : Int) (w : World) : Calls Try.prog 25 #[.int .i64 x] w fun e w' => e = .returned (.int .i64 (nv x : Int)) ∧ w = w' := by
  have hp := pick_lt x (n := 6) (by omega)
  have HP := Lib.hid (fun w => Pick_ok x 6 w (by omega) (by omega))
  have HN : Hid ((1 : Int) + (pick x 6 : Int) = (nv x : Int)) := Lib.hid (by unfold nv; omega)
  have hp0 : (0 : Int) ≤ (pick x 6 : Int) := by omega
  have hp1 : (pick x 6 : Int) < 6 := by omega
  clear hp
  go_enter Try.func25, Try.ntmps25
  go_wp2_with fail
  refine (HP.out w).mono ?_
  rintro e w' ⟨rfl, rfl⟩
  go_wp2_with fail
  go_ret
  exact ⟨by rw [← HN.out]; rfl, rfl⟩

/-- The values of 'Assign'. -/
def asgL (n i : Nat) : List Bool := (List.range n).map (bitsOf i)
theorem asgL_succ (n i : Nat) : asgL (n + 1) i = asgL n i ++ [i.testBit n] := by simp [asgL, List.range_succ, bitsOf]
theorem asgL_len (n i : Nat) : (asgL n i).length = n := by simp [asgL]
theorem asgL_at {n i v : Nat} (h : v < n) : asg (asgL n i) v = bitsOf i v := by simp [asg, asgL, h]

def AsR (w : World) (n i gk : Nat) (s5 s6 : Value) (wr : World) : Prop :=
  ∃ k v, k + gk = n ∧ s6 = .int .i64 (k : Int) ∧ v = s5 ∧ wr.ownsRow w.heap.size 4 1 v k ((asgL k i).map .bool) ∧ Kp No w wr

def AsPost (w : World) (l : List Bool) (e : Ending) (w' : World) : Prop := ∃ v, e = .returned v ∧ Bools w' v l ∧ Kp No w w'

set_option maxRecDepth 100000 in
set_option maxHeartbeats 1000000 in
theorem Assign_ok (n i : Nat) (hn : n ≤ 6) (hi : i < 64) (w : World) : Calls Try.prog 55 #[.int .i64 (n : Int), .int .i64 (i : Int)] w (AsPost w (asgL n i)) := by
  obtain ⟨j0, hj0, hy0, hy1, hy2⟩ := info_parts info_bool
  go_enter Try.func55, Try.ntmps55
  go_wp2
  go_loopg [5, 6] n (fun gk s5 s6 wr => AsR w n i gk s5 s6 wr)
  case atStart => exact ⟨0, _, by omega, rfl, rfl, World.ownsRow_nil _ _ _ _, Kp.refl _ _⟩
  case round =>
    obtain ⟨k, v, hk, rfl, e5, own, kp⟩ := hrel
    subst e5
    by_cases hlt : k < n
    · have hsz := kp.size
      have hbit := bit_at (i := i) (v := k) hi (by omega)
      have HK := Lib.hid hk
      have KP := Lib.hid kp
      have OWN := Lib.hid own
      have hlti : (k : Int) < n := by omega
      clear hk kp
      go_upto_region 4 with (at_builtin; refine wpList_append_lies _ rfl (.tmp 12) (.tmp 18) _ rfl w.heap.size 4 j0 _ 1 1 Try.underlying42 hj0 hy0 hy1 hy2 rfl (by omega) v k ((asgL k i).map .bool) rfl (own.alloc _) ⟨wr.heap.size, 0, none⟩ 1 1 [.bool (i.testBit k)] rfl rfl (World.news_of_block (heap_alloc_new _ _)) (by simp [Value.oneCell']) (by omega) (by unfold maxLen; omega) (by omega) (by simp; omega) (wr.heap.size + 1) (by simp) ?_; intro g cap w1 hown hgrow hat hlt2)
      have JN : Hid (AsR w n i (n - (k + 1)) (.slice (some ⟨g, 0, none⟩) (k + 1) cap) (.int .i64 ((k + 1 : Nat) : Int)) w1) := by
        have kg : Kp (fun x => v.ownBlock = some x) wr w1 := grown_no (Kp.alloc _) hgrow
        refine ⟨k + 1, _, by omega, rfl, rfl, ?_, KP.out.trans (A' := fun x => v.ownBlock = some x) (fun x h => .inr (OWN.out.lt x h).1) kg⟩
        rw [asgL_succ, List.map_append]
        exact hown
      clear hown hgrow hat hlt2 own hbit
      go_wp2
      go_roundg (n - (k + 1))
      case measure => have := HK.out; omega
      case rel => exact JN.out
    · obtain rfl : k = n := by omega
      have P : Hid (AsPost w (asgL k i) (.returned v) wr) := ⟨v, rfl, Bools.of_row (by rw [asgL_len]; exact own), kp⟩
      have hlti : ¬ (k : Int) < k := by omega
      clear own kp hk
      go_wp2
      go_ret
      exact P.out

def AgR (w : World) (N gk : Nat) (s9 : Value) (wr : World) : Prop := ∃ k, k + gk = N ∧ s9 = .int .i64 (k : Int) ∧ Kp No w wr

set_option maxRecDepth 100000 in
set_option maxHeartbeats 2000000 in
theorem Agrees_ok {p n : Nat} {M : Mgr} {L : Lay} (f : Int) {F : BF} {tv : Value} {B : Nat} {w : World} (hn : n ≤ 6) (R : Rep w p M L) (hf : M.valid f = true) (hs : ∀ a, M.sem f.toNat a = F a) (hF : Upto n F) (ht : Tb B w tv (tab n F)) :
    Calls Try.prog 28 #[ptr p, .int .i64 f, tv, .int .i64 (n : Int)] w fun e w' => e = .returned (.bool true) ∧ Kp No w w' := by
  have hN := pow_le_64 hn
  obtain ⟨g, c, rfl, hgl⟩ := ht.form
  have CELL : Hid (∀ wr, Kp No w wr → ∀ i, i < 2 ^ n → wr.cell? ⟨g, i, none⟩ = some (.bool (F (bitsOf i)))) := Lib.hid (fun wr kp i hi => ht.cellAt kp hi)
  have EV : Hid (∀ wr v i, Kp No w wr → Bools wr v (asgL n i) → Calls Try.prog 31 #[ptr p, .int .i64 f, v] wr fun e w' => e = .returned (.bool (F (bitsOf i))) ∧ Kp No wr w') := Lib.hid (fun wr v i kp hb => by
    have := Eval_ok f (R.no kp) hb
    have e : M.evalM f (asgL n i) = F (bitsOf i) := by
      unfold Mgr.evalM; rw [if_pos hf, hs]
      exact hF _ _ (fun v hv => asgL_at hv)
    rw [e] at this
    exact this)
  have VA : Hid (∀ wr, Kp No w wr → Calls Try.prog 43 #[ptr p, .int .i64 f] wr fun e w' => e = .returned (.bool true) ∧ wr = w') := Lib.hid (fun wr kp => valid_as f true (R.no kp) hf)
  clear ht R hf hs hF
  generalize hNN : 2 ^ n = N at *
  clear hNN
  go_enter Try.func28, Try.ntmps28
  go_wp2
  go_loopg [9] N (fun gk s9 wr => AgR w N gk s9 wr)
  case atStart => exact ⟨0, by omega, rfl, Kp.refl _ _⟩
  case round =>
    obtain ⟨k, hk, rfl, kp⟩ := hrel
    by_cases hlt : k < N
    · have S0 := Lib.hid (CELL.out wr.drew (kp.trans_no Kp.drew) k hlt)
      have AS := Lib.hid (fun x => Assign_ok n k hn (by omega) x)
      have KP := Lib.hid (kp.trans_no (Kp.drew))
      have HK := Lib.hid hk
      have hlti : (k : Int) < N := by omega
      clear hk kp
      have EVK := Lib.hid (fun wr v => EV.out wr v k)
      have CK := Lib.hid (fun wr h => CELL.out wr h k hlt)
      clear EV CELL
      generalize F (bitsOf k) = b at *
      go_upto_region 4 with (fail)
      go_region_held3 (fun x => x.cell? ⟨g, k, none⟩ = some (.bool b)) (first | exact S0.out | exact SA.out | exact SB.out)
        (first | (go_at_call 55; refine (AS.out _).mono ?_; rintro e wa ⟨va, rfl, hba, ka⟩; have KA := Lib.hid (KP.out.trans_no ka); have SA := Lib.hid (CK.out _ KA.out); have BA := Lib.hid hba; clear hba ka) | (go_at_call 31; refine (EVK.out _ _ KA.out BA.out).mono ?_; rintro e wb ⟨rfl, kb⟩; have KB := Lib.hid (KA.out.trans_no kb); have SB := Lib.hid (CK.out _ KB.out); clear kb))
      all_goals
        cases b <;>
        · go_wp2_with fail
          go_roundg (N - (k + 1))
          case measure => have := HK.out; omega
          case rel => exact ⟨k + 1, by omega, by go_num, KB.out⟩
    · obtain rfl : k = N := by omega
      have KP := Lib.hid kp
      have hlti : ¬ (k : Int) < k := by omega
      clear kp hk
      go_wp2_with fail
      refine (VA.out _ KP.out).mono ?_
      rintro e w' ⟨rfl, rfl⟩
      go_wp2_with fail
      go_ret
      exact ⟨rfl, KP.out⟩

/-! ### Equal -/
def eqT (n : Nat) (F G : BF) : Bool := decide (tab n F = tab n G)

def EqR (w : World) (N : Nat) (t u : List Bool) (gk : Nat) (s5 : Value) (wr : World) : Prop :=
  ∃ k m, k + gk = N ∧ s5 = .int .i64 (k : Int) ∧ wr = w.drewN m ∧ ∀ i : Nat, i < k → t[i]? = u[i]?

set_option maxRecDepth 100000 in
set_option maxHeartbeats 1000000 in
theorem REqual_ok {n : Nat} (hn : n ≤ 6) {B1 B2 : Nat} {fv gv : Value} {F G : BF} {w : World} (hf : Tb B1 w fv (tab n F)) (hg : Tb B2 w gv (tab n G)) :
    Calls Try.prog 34 #[fv, gv] w fun e w' => e = .returned (.bool (eqT n F G)) ∧ ∃ m, w' = w.drewN m := by
  have hN := pow_le_64 hn
  obtain ⟨g1, c1, rfl, l1⟩ := hf.form
  obtain ⟨g2, c2, rfl, l2⟩ := hg.form
  have C1 : Hid (∀ m i, i < 2 ^ n → (w.drewN m).cell? ⟨g1, i, none⟩ = some (.bool (F (bitsOf i)))) := Lib.hid (fun m i hi => hf.cellAt (Kp.drewN m) hi)
  have C2 : Hid (∀ m i, i < 2 ^ n → (w.drewN m).cell? ⟨g2, i, none⟩ = some (.bool (G (bitsOf i)))) := Lib.hid (fun m i hi => hg.cellAt (Kp.drewN m) hi)
  have TF : Hid (∀ i, i < 2 ^ n → (tab n F)[i]? = some (F (bitsOf i)) ∧ (tab n G)[i]? = some (G (bitsOf i))) := Lib.hid (fun i hi => ⟨tab_get F hi, tab_get G hi⟩)
  have YES : Hid ((∀ i, i < 2 ^ n → (tab n F)[i]? = (tab n G)[i]?) → eqT n F G = true) := Lib.hid (fun h => by
    unfold eqT
    refine decide_eq_true (List.ext_getElem? (fun i => ?_))
    rcases Nat.lt_or_ge i (2 ^ n) with hi | hi
    · exact h i hi
    · rw [List.getElem?_eq_none (by simpa using hi), List.getElem?_eq_none (by simpa using hi)])
  have NO : Hid (∀ i : Nat, (tab n F)[i]? ≠ (tab n G)[i]? → eqT n F G = false) := Lib.hid (fun i h => by
    unfold eqT
    exact decide_eq_false (fun e => h (by rw [e])))
  clear hf hg
  generalize hT : tab n F = T at *
  generalize hU : tab n G = U at *
  generalize eqT n F G = r at *
  clear hT hU
  generalize 2 ^ n = N at *
  go_enter Try.func34, Try.ntmps34
  go_wp2
  go_loopg [5] N (fun gk s5 wr => EqR w N T U gk s5 wr)
  case atStart => exact ⟨0, 0, by omega, rfl, rfl, fun i hi => by omega⟩
  case round =>
    obtain ⟨k, m, hk, rfl, hw, hpre⟩ := hrel
    have HW := Lib.hid hw
    by_cases hlt : k < N
    · have f1 := C1.out m k hlt
      have f2 := C2.out m k hlt
      rw [← hw] at f1 f2
      clear hw
      obtain ⟨t1, t2⟩ := TF.out k hlt
      have hlti : (k : Int) < N := by omega
      have HK := Lib.hid hk
      by_cases hb : F (bitsOf k) = G (bitsOf k)
      · have NX : Hid (∀ m', EqR w N T U (N - (k + 1)) (.int .i64 ((k + 1 : Nat) : Int)) (wr.drewN m')) := Lib.hid (fun m' => ⟨k + 1, m + m', by omega, rfl, by rw [HW.out, World.drewN_drewN], fun i hi => by
          rcases Nat.lt_or_ge i k with h | h
          · exact hpre i h
          · obtain rfl : i = k := by omega
            rw [t1, t2, hb]⟩)
        rw [← hb] at f2
        clear hk hpre t1 t2 hb
        generalize F (bitsOf k) = b at *
        go_wp2
        go_quiet (fail)
        go_wp2
        go_roundg (N - (k + 1))
        case measure => have := HK.out; omega
        case rel => exact NX.out _
      · have R := Lib.hid (NO.out k (by rw [t1, t2]; simpa using hb))
        have hb2 : (F (bitsOf k) == G (bitsOf k)) = false := by simpa using hb
        clear hk hpre t1 t2 hb
        generalize F (bitsOf k) = b at *
        generalize G (bitsOf k) = c at *
        go_wp2
        go_quiet (fail)
        go_wp2
        go_ret
        exact ⟨by rw [R.out]; rfl, _, by rw [HW.out, World.drewN_drewN]⟩
    · obtain rfl : k = N := by omega
      have R := Lib.hid (YES.out hpre)
      have hlti : ¬ (k : Int) < k := by omega
      clear hk hpre hw
      go_wp2
      go_ret
      exact ⟨by rw [R.out]; rfl, m, HW.out⟩

end Go.Proofs.Ytifompekiockmaa
