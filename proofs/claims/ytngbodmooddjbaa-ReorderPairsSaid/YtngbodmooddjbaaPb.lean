/-
  Walks: 'Identity' of the reference up to 256, 'pairs' of the package netverifylaw28.
-/
import Derived.Test.YtngbodmooddjbaaPa
import Derived.Test.YtngbodmooddjbaaAwr
import Derived.Test.YtngbodmooddjbaaRefT
namespace Go.Proofs.Ytngbodmooddjbaa
open Go.RowKit

set_option maxRecDepth 100000 in
set_option maxHeartbeats 1000000 in
theorem Identity_any (n : Nat) (hn : n ≤ 256) (w : World) : Calls Try.prog 22 #[.int .i64 (n : Int)] w (NatsPost w (List.range n)) := by
  obtain ⟨i0, hi0, hz0, hz1, hz2⟩ := info_parts info_int
  go_enter Try.func22, Try.ntmps22
  go_wp2
  go_loopg [3, 4] n (fun gk s3 s4 wr => IdR w n gk s3 s4 wr)
  case atStart => exact ⟨0, _, by omega, rfl, rfl, World.ownsRow_nil _ _ _ _, Kp.refl _ _⟩
  case round =>
    obtain ⟨k, v, hk, rfl, e5, own, kp⟩ := hrel
    subst e5
    by_cases hlt : k < n
    · have hsz := kp.size
      have HK := Lib.hid hk
      have KP := Lib.hid kp
      have OWN := Lib.hid own
      have hlti : (k : Int) < n := by omega
      clear hk kp
      go_wp2_with (at_builtin; refine wpList_append_lies _ rfl (.tmp 10) (.tmp 12) _ rfl w.heap.size 3 i0 _ 1 8 Try.underlying33 hi0 hz0 hz1 hz2 rfl (by omega) v k ((List.range k).map natV) rfl (own.alloc _) ⟨wr.heap.size, 0, none⟩ 1 1 [.int .i64 (k : Int)] rfl rfl (World.news_of_block (heap_alloc_new _ _)) (by simp [Value.oneCell']) (by omega) (by unfold maxLen; omega) (by omega) (by simp; omega) (wr.heap.size + 1) (by simp) ?_; intro g cap w1 hown hgrow hat hlt2)
      have JN : Hid (IdR w n (n - (k + 1)) (.slice (some ⟨g, 0, none⟩) (k + 1) cap) (.int .i64 ((k + 1 : Nat) : Int)) w1) := by
        have kg : Kp (fun x => v.ownBlock = some x) wr w1 := grown_no (Kp.alloc _) hgrow
        refine ⟨k + 1, _, by omega, rfl, rfl, ?_, KP.out.trans (A' := fun x => v.ownBlock = some x) (fun x h => .inr (OWN.out.lt x h).1) kg⟩
        rw [List.range_succ, List.map_append]
        exact hown
      clear hown hgrow hat hlt2 own
      go_wp2
      go_roundg (n - (k + 1))
      case measure => have := HK.out; omega
      case rel => exact JN.out
    · obtain rfl : k = n := by omega
      have P : Hid (NatsPost w (List.range k) (.returned v) wr) := ⟨v, rfl, by rw [List.length_range]; exact own, kp⟩
      have hlti : ¬ (k : Int) < k := by omega
      clear own kp hk
      go_wp2
      go_ret
      exact P.out

/-! ### the disjunction of the first m pairs -/
def preF (k m : Nat) : Bfn := fun a => (List.range m).any fun i => a i && a (i + k)
theorem preF_zero (k : Nat) (a : Nat → Bool) : preF k 0 a = false := rfl
theorem preF_succ (k m : Nat) (a : Nat → Bool) : preF k (m + 1) a = (preF k m a || (a m && a (m + k))) := by
  unfold preF
  rw [List.range_succ, List.any_append]
  simp
theorem preF_all (k : Nat) : preF k k = pairF k [] := by
  funext a
  unfold preF pairF
  refine any_same (fun j _ => ?_)
  show _ = ((false || decide (0 ≤ j) && a j) && a (j + k))
  simp
theorem preF_st {k m : Nat} (hm : m ≤ k) : PSt (2 * k) (preF k m) (2 ^ m + 1) := fun M hn hp => by
  refine ⟨fun d a => if (List.range m).any (fun i => decide (i + k < d) && (a i && a (i + k))) = true then 2 ^ m else Mgr.code m a, fun d a => ?_, fun d a a' e b => ?_⟩
  · dsimp only
    split
    · omega
    · have := Mgr.code_lt m a; omega
  · dsimp only at e
    have mx : ∀ (x : Nat → Bool) v, v < 2 * k → M.mix d x b v = if v < d then x v else b v := fun x v hv => by unfold Mgr.mix; rw [hp v (by omega)]
    have yes : ∀ x : Nat → Bool, (List.range m).any (fun i => decide (i + k < d) && (x i && x (i + k))) = true → preF k m (M.mix d x b) = true := fun x h => by
      obtain ⟨i, hi, e⟩ := List.any_eq_true.1 h
      have hi' := List.mem_range.1 hi
      rw [Bool.and_eq_true, decide_eq_true_eq] at e
      unfold preF
      rw [List.any_eq_true]
      refine ⟨i, hi, ?_⟩
      rw [mx x i (by omega), mx x (i + k) (by omega), if_pos (by omega), if_pos e.1]
      exact e.2
    have no : ∀ x : Nat → Bool, ¬ (List.range m).any (fun i => decide (i + k < d) && (x i && x (i + k))) = true → preF k m (M.mix d x b) = (List.range m).any (fun i => (if i < d then x i else b i) && (!decide (i + k < d) && b (i + k))) := fun x h => by
      unfold preF
      refine any_same (fun i hi => ?_)
      rw [mx x i (by omega), mx x (i + k) (by omega)]
      by_cases c : i + k < d
      · rw [if_pos c, decide_eq_true c]
        have : (x i && x (i + k)) = false := by
          rw [Bool.eq_false_iff]
          exact fun e => h (List.any_eq_true.2 ⟨i, List.mem_range.2 hi, by rw [decide_eq_true c]; exact e⟩)
        rw [if_pos (by omega), this]; simp
      · rw [if_neg c, decide_eq_false c]; rfl
    by_cases c : (List.range m).any (fun i => decide (i + k < d) && (a i && a (i + k))) = true
    · by_cases c' : (List.range m).any (fun i => decide (i + k < d) && (a' i && a' (i + k))) = true
      · rw [yes a c, yes a' c']
      · rw [if_pos c, if_neg c'] at e
        have := Mgr.code_lt m a'; omega
    · by_cases c' : (List.range m).any (fun i => decide (i + k < d) && (a' i && a' (i + k))) = true
      · rw [if_neg c, if_pos c'] at e
        have := Mgr.code_lt m a; omega
      · rw [if_neg c, if_neg c'] at e
        rw [no a c, no a' c']
        refine any_same (fun i hi => ?_)
        rw [Mgr.code_inj m a a' e i hi]

/-- The state of 'pairs' and of its law. -/
structure PaJ (w : World) (p n c : Nat) (B : List (Int × Bfn)) (x : World) (M : Mgr) (L : Lay) : Prop where
  own : Own w p x M L
  q : Qk n c M B
theorem PaJ.op {w : World} {p n c c' : Nat} {B : List (Int × Bfn)} {x y : World} {M : Mgr} {L : Lay} {F : Bfn} {e : Ending} (s : PaJ w p n c B x M L) (h : OpQ p n c' L x F B e y) : ∃ r M' L', e = .returned (.int .i64 r) ∧ PaJ w p n c' ((r, F) :: B) y M' L' := by
  obtain ⟨r, M', h1, h2, _⟩ := h
  obtain ⟨he, L', s'⟩ := s.own.step h1
  exact ⟨r, M', L', he, s', h2⟩
def prC (k : Nat) : Nat → Nat
  | 0 => 2
  | i + 1 => prC k i + 2 + 2 * k * 4 + 2 * k * (2 ^ (i + 1) + 1)
theorem prC_le {k : Nat} (hk : k ≤ 8) : ∀ i, i ≤ k → prC k i ≤ 2 + i * 2 + 16 * 4 * i + 16 * (2 ^ (i + 1) + i)
  | 0, _ => by show 2 ≤ _; omega
  | i + 1, hi => by
    have := prC_le hk i (by omega)
    have h1 : 2 * k * (2 ^ (i + 1) + 1) ≤ 16 * (2 ^ (i + 1) + 1) := Nat.mul_le_mul_right _ (by omega)
    show prC k i + 2 + 2 * k * 4 + 2 * k * (2 ^ (i + 1) + 1) ≤ _
    rw [Nat.pow_succ 2 (i + 1)]
    omega
theorem prC_max {k i : Nat} (hk : k ≤ 8) (hi : i ≤ k) : prC k i ≤ 9000 := by
  have := prC_le hk i hi
  have h2 : 2 ^ (i + 1) ≤ 2 ^ 9 := Nat.pow_le_pow_right (by omega) (by omega)
  have h3 : (2 : Nat) ^ 9 = 512 := by decide
  omega
def PaR (w : World) (p k gk : Nat) (s5 s6 : Value) (x : World) : Prop := ∃ i r M L, i + gk = k ∧ s6 = .int .i64 (i : Int) ∧ s5 = .int .i64 r ∧ PaJ w p (2 * k) (prC k i) [(r, preF k i)] x M L
def PaPost (w : World) (p k : Nat) (e : Ending) (y : World) : Prop := ∃ r M L, e = .returned (.int .i64 r) ∧ PaJ w p (2 * k) (prC k k) [(r, pairF k [])] y M L

set_option maxRecDepth 100000 in
set_option maxHeartbeats 2000000 in
theorem Pairs_ok {w x : World} {p k : Nat} {M : Mgr} {L : Lay} (hk : k ≤ 8) (s : PaJ w p (2 * k) 2 [] x M L) :
    Calls Try.prog 30 #[ptr p, .int .i64 (k : Int)] x (PaPost w p k) := by
  have J0 : Hid (PaR w p k k (.int .i64 0) (.int .i64 0) x) := Lib.hid ⟨0, 0, M, L, by omega, rfl, rfl, s.own, s.q.consts.sub (fun y hy => by
    rw [List.mem_singleton.1 hy]
    exact .head _)⟩
  clear s
  go_enter Try.func30, Try.ntmps30
  go_wp2
  go_loopg [5, 6] k (fun gk s5 s6 wr => PaR w p k gk s5 s6 wr)
  case atStart => exact J0.out
  case round =>
    clear J0
    obtain ⟨i, r, M, L, hi, rfl, rfl, s⟩ := hrel
    have HI := Lib.hid hi
    have S := Lib.hid s
    by_cases hlt : i < k
    · have hlti : (i : Int) < k := by omega
      have hk8 : (k : Int) ≤ 8 := by omega
      have hc := prC_max hk (Nat.le_of_lt hlt)
      have C1 := Lib.hid (VarQ s.own.rep s.q (v := i) (by omega) (by omega))
      clear s hi hc
      go_wp2_with fail
      refine C1.out.mono ?_
      intro e y1 h1
      obtain ⟨r1, M1, L1, rfl, s1⟩ := S.out.op h1
      have S1 := Lib.hid s1
      have C2 : Hid (Calls Try.prog 47 #[ptr p, .int .i64 ((i : Int) + (k : Int))] y1 (OpQ p (2 * k) (prC k i + 1 + 1) L1 y1 (fun a => a (i + k)) [(r1, fun a => a i), (r, preF k i)])) := Lib.hid (by
        have hc := prC_max hk (Nat.le_of_lt hlt)
        have := VarQ s1.own.rep s1.q (v := i + k) (by omega) (by omega)
        rw [show ((i + k : Nat) : Int) = (i : Int) + (k : Int) by omega] at this
        exact this)
      clear s1 h1 C1
      go_wp2_with fail
      refine C2.out.mono ?_
      intro e y2 h2
      obtain ⟨r2, M2, L2, rfl, s2⟩ := S1.out.op h2
      have S2 := Lib.hid s2
      have C3 := Lib.hid (AndQ s2.own.rep s2.q (f := r1) (g := r2) (F := fun a => a i) (G := fun a => a (i + k)) (.tail _ (.head _)) (.head _) ((PSt.var (2 * k) i (by omega)).op (· && ·) (PSt.var (2 * k) (i + k) (by omega))) (by have hc := prC_max hk (Nat.le_of_lt hlt); omega))
      clear s2 h2 C2
      go_wp2_with fail
      refine C3.out.mono ?_
      intro e y3 h3
      obtain ⟨r3, M3, L3, rfl, s3⟩ := S2.out.op h3
      have S3 := Lib.hid s3
      have C4 := Lib.hid (OrQ s3.own.rep s3.q (f := r) (g := r3) (F := preF k i) (G := fun a => a i && a (i + k)) (.tail _ (.tail _ (.tail _ (.head _)))) (.head _) ((preF_st (k := k) (m := i + 1) hlt).congr (fun a => (preF_succ k i a).symm)) (by
        have hc := prC_max (i := i + 1) hk hlt
        unfold prC at hc
        omega))
      clear s3 h3 C3
      go_wp2_with fail
      refine C4.out.mono ?_
      intro e y4 h4
      obtain ⟨r4, M4, L4, rfl, s4⟩ := S3.out.op h4
      have JN : Hid (PaR w p k (k - (i + 1)) (.int .i64 r4) (.int .i64 ((i + 1 : Nat) : Int)) y4) := Lib.hid ⟨i + 1, r4, M4, L4, by omega, rfl, rfl, s4.own, ((s4.q.cong (G := preF k (i + 1)) (fun a => (preF_succ k i a).symm)).sub (fun z hz => by
        rw [List.mem_singleton.1 hz]; exact .head _)).mono (by
          show _ ≤ prC k i + 2 + 2 * k * 4 + 2 * k * (2 ^ (i + 1) + 1)
          omega)⟩
      clear s4 h4 C4
      go_wp2_with fail
      go_roundg (k - (i + 1))
      case measure => have := HI.out; omega
      case rel => exact JN.out
    · obtain rfl : i = k := by omega
      have hge : ¬ (i : Int) < i := by omega
      have P : Hid (PaPost w p i (.returned (.int .i64 r)) wr) := Lib.hid ⟨r, M, L, rfl, by rw [← preF_all]; exact s⟩
      clear s S hi HI
      go_wp2_with fail
      go_ret
      exact P.out

end Go.Proofs.Ytngbodmooddjbaa
