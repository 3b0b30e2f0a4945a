/-
  Plain mathematics: functions of the number of true variables, and the sizes of some of them.
-/
import Derived.Test.YtgglkldoclejaaaDoorFam
namespace Go.Proofs.YtgglkldoclejaaaDoor

/-- How many of the m variables from i on are true. -/
def cnt : Nat → Nat → (Nat → Bool) → Nat
  | _, 0, _ => 0
  | i, m + 1, b => (if b i then 1 else 0) + cnt (i + 1) m b

theorem cnt_le : ∀ (i m : Nat) (b : Nat → Bool), cnt i m b ≤ m
  | _, 0, _ => by simp [cnt]
  | i, m + 1, b => by have := cnt_le (i + 1) m b; simp only [cnt]; split <;> omega

theorem cnt_congr : ∀ (i m : Nat) (a b : Nat → Bool), (∀ v, i ≤ v → v < i + m → a v = b v) → cnt i m a = cnt i m b
  | _, 0, _, _, _ => rfl
  | i, m + 1, a, b, h => by
    simp only [cnt]
    rw [h i (by omega) (by omega), cnt_congr (i + 1) m a b (fun v h1 h2 => h v (by omega) (by omega))]

theorem cnt_add : ∀ (i m k : Nat) (b : Nat → Bool), cnt i (m + k) b = cnt i m b + cnt (i + m) k b
  | i, 0, k, b => by simp [cnt]
  | i, m + 1, k, b => by
    rw [show m + 1 + k = (m + k) + 1 by omega]
    simp only [cnt]
    rw [cnt_add (i + 1) m k b, show i + 1 + m = i + (m + 1) by omega]
    omega

theorem cnt_succ (i m : Nat) (b : Nat → Bool) : cnt i (m + 1) b = cnt i m b + if b (i + m) then 1 else 0 := by
  rw [cnt_add i m 1 b]; simp [cnt]

theorem cnt_false (i m : Nat) : cnt i m (fun _ => false) = 0 := by
  induction m generalizing i with
  | zero => rfl
  | succ m ih => simp [cnt, ih]
theorem cnt_true (i m : Nat) : cnt i m (fun _ => true) = m := by
  induction m generalizing i with
  | zero => rfl
  | succ m ih => simp [cnt, ih]; omega

/-- One variable alone. -/
def sg (x : Nat) : Nat → Bool := fun v => decide (v = x)
theorem cnt_sg_in : ∀ (i m x : Nat), i ≤ x → x < i + m → cnt i m (sg x) = 1
  | _, 0, _, h1, h2 => by omega
  | i, m + 1, x, h1, h2 => by
    simp only [cnt]
    by_cases e : i = x
    · subst e
      rw [cnt_congr (i + 1) m (sg i) (fun _ => false) (fun v h1 h2 => by simp [sg]; omega), cnt_false]
      simp [sg]
    · rw [cnt_sg_in (i + 1) m x (by omega) (by omega)]
      simp [sg, e]
theorem cnt_sg_out (i m x : Nat) (h : x < i ∨ i + m ≤ x) : cnt i m (sg x) = 0 := by
  rw [cnt_congr i m (sg x) (fun _ => false) (fun v h1 h2 => by simp [sg]; omega), cnt_false]

/-- Two variables. -/
def db (x y : Nat) : Nat → Bool := fun v => decide (v = x) || decide (v = y)
theorem cnt_db (i m x y : Nat) (hx : i ≤ x) (hxy : x < y) (hy : y < i + m) : cnt i m (db x y) = 2 := by
  obtain ⟨k, hk⟩ : ∃ k, m = (x + 1 - i) + k := ⟨m - (x + 1 - i), by omega⟩
  rw [hk, cnt_add]
  rw [cnt_congr i (x + 1 - i) (db x y) (sg x) (fun v h1 h2 => by simp [db, sg]; omega), cnt_sg_in _ _ _ hx (by omega)]
  rw [cnt_congr (i + (x + 1 - i)) k (db x y) (sg y) (fun v h1 h2 => by simp [db, sg]; omega), cnt_sg_in _ _ _ (by omega) (by omega)]

namespace Mgr

/-- The order is 0, 1, 2 .. -/
def Plain (M : Mgr) : Prop := ∀ v, v < M.n → M.lev v = v

theorem cnt_mix {M : Mgr} (hp : M.Plain) {k : Nat} (hk : k ≤ M.n) (d : Nat) (a b : Nat → Bool) (hd : d ≤ k) : cnt 0 k (M.mix d a b) = cnt 0 d a + cnt d (k - d) b := by
  obtain ⟨j, hj⟩ : ∃ j, k = d + j := ⟨k - d, by omega⟩
  subst hj
  rw [cnt_add, Nat.zero_add, Nat.add_sub_cancel_left]
  rw [cnt_congr 0 d (M.mix d a b) a (fun v h1 h2 => by unfold mix; rw [hp v (by omega), if_pos (by omega)])]
  rw [cnt_congr d j (M.mix d a b) b (fun v h1 h2 => by unfold mix; rw [hp v (by omega), if_neg (by omega)])]

theorem cnt_mix_far {M : Mgr} (hp : M.Plain) {k : Nat} (hk : k ≤ M.n) (d : Nat) (a b : Nat → Bool) (hd : k ≤ d) : cnt 0 k (M.mix d a b) = cnt 0 k a :=
  cnt_congr 0 k _ _ (fun v h1 h2 => by unfold mix; rw [hp v (by omega), if_pos (by omega)])

/-- At each level the cofactors of F are told apart by a state below s. -/
def States (M : Mgr) (F : (Nat → Bool) → Bool) (s : Nat) : Prop := ∃ st : Nat → (Nat → Bool) → Nat, (∀ d a, st d a < s) ∧ ∀ d a a', st d a = st d a' → ∀ b, F (M.mix d a b) = F (M.mix d a' b)

/-- A function of the number of true variables among the first k, and of variable k. -/
theorem states_cnt {M : Mgr} (hp : M.Plain) {k : Nat} (hk : k ≤ M.n) (psi : Nat → Bool → Bool) (F : (Nat → Bool) → Bool) (hF : ∀ a, F a = psi (cnt 0 k a) (if k < M.n then a k else false)) : M.States F (2 * (k + 1)) := by
  refine ⟨fun d a => 2 * cnt 0 (min d k) a + (if k < d ∧ a k = true then 1 else 0), fun d a => ?_, fun d a a' h b => ?_⟩
  · have := cnt_le 0 (min d k) a
    have hm : min d k ≤ k := Nat.min_le_right _ _
    dsimp only
    split <;> omega
  · dsimp only at h
    have h1 : cnt 0 (min d k) a = cnt 0 (min d k) a' := by split at h <;> split at h <;> omega
    have h2 : k < d → a k = a' k := fun hkd => by
      simp only [hkd, true_and] at h
      cases ha : a k <;> cases ha' : a' k <;> simp [ha, ha'] at h ⊢ <;> omega
    rw [hF, hF]
    have e1 : cnt 0 k (M.mix d a b) = cnt 0 k (M.mix d a' b) := by
      rcases Nat.le_total d k with hdk | hdk
      · rw [cnt_mix hp hk d a b hdk, cnt_mix hp hk d a' b hdk]
        rw [Nat.min_eq_left hdk] at h1
        rw [h1]
      · rw [cnt_mix_far hp hk d a b hdk, cnt_mix_far hp hk d a' b hdk]
        rw [Nat.min_eq_right hdk] at h1
        exact h1
    have e2 : (if k < M.n then M.mix d a b k else false) = (if k < M.n then M.mix d a' b k else false) := by
      split
      · rename_i hkn
        unfold mix
        rw [hp k hkn]
        split
        · exact h2 (by assumption)
        · rfl
      · rfl
    rw [e1, e2]

/-- A cofactor of a function of the number of true variables. -/
theorem cof_cnt {M : Mgr} (hp : M.Plain) {f : Nat} (phi : Nat → Bool) (hs : ∀ a, M.sem f a = phi (cnt 0 M.n a)) (d : Nat) (a b : Nat → Bool) (hd : d ≤ M.n) : M.sem f (M.mix d a b) = phi (cnt 0 d a + cnt d (M.n - d) b) := by
  rw [hs, cnt_mix hp (Nat.le_refl _) d a b hd]

theorem cof_far {M : Mgr} (hp : M.Plain) {f : Nat} (phi : Nat → Bool) (hs : ∀ a, M.sem f a = phi (cnt 0 M.n a)) (d : Nat) (a : Nat → Bool) (hn : NonConst (fun b => M.sem f (M.mix d a b))) : d < M.n := by
  rcases Nat.lt_or_ge d M.n with hd | hd
  · exact hd
  · obtain ⟨x, y, hxy⟩ := hn
    exfalso; apply hxy
    show M.sem f _ = M.sem f _
    rw [hs, hs, cnt_mix_far hp (Nat.le_refl _) d a x hd, cnt_mix_far hp (Nat.le_refl _) d a y hd]

section
variable {M : Mgr} (h : M.WF) (hp : M.Plain) {f : Nat} (hf : M.stored f)
include h hp hf

theorem size_all (hs : ∀ a, M.sem f a = decide (cnt 0 M.n a = M.n)) : M.size f = M.n := by
  refine size_family h hf M.n (fun i b => decide (cnt i (M.n - i) b = M.n - i)) ?_ ?_ ?_ ?_
  · have key : ∀ i j, i < j → j < M.n → (fun b => decide (cnt i (M.n - i) b = M.n - i)) ≠ (fun b => decide (cnt j (M.n - j) b = M.n - j)) := fun i j hij hj e => by
      have := congrFun e (fun v => !decide (v = i))
      simp only [decide_eq_decide] at this
      have c1 : cnt j (M.n - j) (fun v => !decide (v = i)) = M.n - j := by
        rw [cnt_congr j _ _ (fun _ => true) (fun v h1 h2 => by simp; omega), cnt_true]
      have c2 : cnt i (M.n - i) (fun v => !decide (v = i)) ≠ M.n - i := by
        obtain ⟨m, hm⟩ : ∃ m, M.n - i = m + 1 := ⟨M.n - i - 1, by omega⟩
        rw [hm]
        have := cnt_le (i + 1) m (fun v => !decide (v = i))
        simp only [cnt, decide_true, Bool.not_true, Bool.false_eq_true, if_false]
        omega
      exact c2 (this.2 c1)
    intro i j hi hj e
    rcases Nat.lt_trichotomy i j with x | x | x
    · exact (key i j x hj e).elim
    · exact x
    · exact (key j i x hi e.symm).elim
  · intro i hi
    exact ⟨fun _ => true, fun _ => false, by simp only [cnt_true, cnt_false]; simp; omega⟩
  · intro i hi
    refine ⟨i, fun _ => true, fun b => ?_⟩
    rw [cof_cnt hp (fun x => decide (x = M.n)) hs i _ b (by omega), cnt_true]
    have := cnt_le i (M.n - i) b
    simp only [decide_eq_decide]; omega
  · intro d a hn
    have hd := cof_far hp (fun x => decide (x = M.n)) hs d a hn
    have e : ∀ b, M.sem f (M.mix d a b) = decide (cnt 0 d a + cnt d (M.n - d) b = M.n) := fun b => cof_cnt hp (fun x => decide (x = M.n)) hs d a b (by omega)
    have hc : cnt 0 d a = d := by
      obtain ⟨x, y, hxy⟩ := hn
      simp only [e] at hxy
      have l1 := cnt_le 0 d a
      have l2 := cnt_le d (M.n - d) x
      have l3 := cnt_le d (M.n - d) y
      rcases Nat.lt_or_ge (cnt 0 d a) d with hlt | hge
      · exfalso; apply hxy
        simp only [decide_eq_decide]; omega
      · omega
    refine ⟨d, hd, funext fun b => ?_⟩
    rw [e b, hc]
    have := cnt_le d (M.n - d) b
    simp only [decide_eq_decide]; omega

theorem size_one (hs : ∀ a, M.sem f a = decide (1 ≤ cnt 0 M.n a)) : M.size f = M.n := by
  refine size_family h hf M.n (fun i b => decide (1 ≤ cnt i (M.n - i) b)) ?_ ?_ ?_ ?_
  · have key : ∀ i j, i < j → j < M.n → (fun b => decide (1 ≤ cnt i (M.n - i) b)) ≠ (fun b => decide (1 ≤ cnt j (M.n - j) b)) := fun i j hij hj e => by
      have := congrFun e (sg i)
      simp only [decide_eq_decide] at this
      rw [cnt_sg_in i (M.n - i) i (by omega) (by omega), cnt_sg_out j (M.n - j) i (by omega)] at this
      omega
    intro i j hi hj e
    rcases Nat.lt_trichotomy i j with x | x | x
    · exact (key i j x hj e).elim
    · exact x
    · exact (key j i x hi e.symm).elim
  · intro i hi
    exact ⟨fun _ => true, fun _ => false, by simp only [cnt_true, cnt_false]; simp; omega⟩
  · intro i hi
    refine ⟨i, fun _ => false, fun b => ?_⟩
    rw [cof_cnt hp (fun x => decide (1 ≤ x)) hs i _ b (by omega), cnt_false]
    simp
  · intro d a hn
    have hd := cof_far hp (fun x => decide (1 ≤ x)) hs d a hn
    have e : ∀ b, M.sem f (M.mix d a b) = decide (1 ≤ cnt 0 d a + cnt d (M.n - d) b) := fun b => cof_cnt hp (fun x => decide (1 ≤ x)) hs d a b (by omega)
    have hc : cnt 0 d a = 0 := by
      obtain ⟨x, y, hxy⟩ := hn
      simp only [e] at hxy
      rcases Nat.lt_or_ge 0 (cnt 0 d a) with hlt | hge
      · exfalso; apply hxy
        simp only [decide_eq_decide]; omega
      · omega
    refine ⟨d, hd, funext fun b => ?_⟩
    rw [e b, hc]
    simp

theorem size_two (h3 : 3 ≤ M.n) (hs : ∀ a, M.sem f a = decide (2 ≤ cnt 0 M.n a)) : M.size f = 2 * M.n - 2 := by
  refine size_family h hf (2 * M.n - 2) (fun j b => if j < M.n - 1 then decide (2 ≤ cnt j (M.n - j) b) else decide (1 ≤ cnt (j - (M.n - 1) + 1) (M.n - (j - (M.n - 1) + 1)) b)) ?_ ?_ ?_ ?_
  · have key : ∀ i j, i < j → j < 2 * M.n - 2 → (fun b => if i < M.n - 1 then decide (2 ≤ cnt i (M.n - i) b) else decide (1 ≤ cnt (i - (M.n - 1) + 1) (M.n - (i - (M.n - 1) + 1)) b)) ≠
        (fun b => if j < M.n - 1 then decide (2 ≤ cnt j (M.n - j) b) else decide (1 ≤ cnt (j - (M.n - 1) + 1) (M.n - (j - (M.n - 1) + 1)) b)) := fun i j hij hj e => by
      by_cases hi1 : i < M.n - 1
      · by_cases hj1 : j < M.n - 1
        · have := congrFun e (db i (M.n - 1))
          simp only [hi1, hj1, if_true, decide_eq_decide] at this
          rw [cnt_db i (M.n - i) i (M.n - 1) (by omega) (by omega) (by omega)] at this
          rw [cnt_congr j (M.n - j) (db i (M.n - 1)) (sg (M.n - 1)) (fun v h1 h2 => by simp [db, sg]; omega), cnt_sg_in _ _ _ (by omega) (by omega)] at this
          omega
        · have := congrFun e (sg (M.n - 1))
          simp only [hi1, hj1, if_true, if_false, decide_eq_decide] at this
          rw [cnt_sg_in i _ _ (by omega) (by omega), cnt_sg_in _ _ _ (by omega) (by omega)] at this
          omega
      · have hj1 : ¬ j < M.n - 1 := by omega
        have := congrFun e (sg (i - (M.n - 1) + 1))
        simp only [hi1, hj1, if_false, decide_eq_decide] at this
        rw [cnt_sg_in _ _ _ (by omega) (by omega), cnt_sg_out _ _ _ (by omega)] at this
        omega
    intro i j hi hj e
    rcases Nat.lt_trichotomy i j with x | x | x
    · exact (key i j x hj e).elim
    · exact x
    · exact (key j i x hi e.symm).elim
  · intro i hi
    refine ⟨fun _ => true, fun _ => false, ?_⟩
    by_cases hi1 : i < M.n - 1
    · simp only [hi1, if_true, cnt_true, cnt_false]; simp; omega
    · simp only [hi1, if_false, cnt_true, cnt_false]; simp; omega
  · intro i hi
    by_cases hi1 : i < M.n - 1
    · refine ⟨i, fun _ => false, fun b => ?_⟩
      rw [cof_cnt hp (fun x => decide (2 ≤ x)) hs i _ b (by omega), cnt_false]
      simp [hi1]
    · refine ⟨i - (M.n - 1) + 1, sg 0, fun b => ?_⟩
      rw [cof_cnt hp (fun x => decide (2 ≤ x)) hs _ _ b (by omega), cnt_sg_in _ _ _ (by omega) (by omega)]
      simp only [hi1, if_false, decide_eq_decide]; omega
  · intro d a hn
    have hd := cof_far hp (fun x => decide (2 ≤ x)) hs d a hn
    have e : ∀ b, M.sem f (M.mix d a b) = decide (2 ≤ cnt 0 d a + cnt d (M.n - d) b) := fun b => cof_cnt hp (fun x => decide (2 ≤ x)) hs d a b (by omega)
    have l1 := cnt_le 0 d a
    obtain ⟨x, y, hxy⟩ := hn
    simp only [e] at hxy
    have l2 := cnt_le d (M.n - d) x
    have l3 := cnt_le d (M.n - d) y
    rcases Nat.lt_trichotomy (cnt 0 d a) 1 with hlt | heq | hgt
    · have hd2 : d < M.n - 1 := by
        rcases Nat.lt_or_ge d (M.n - 1) with hlt2 | hge2
        · exact hlt2
        · exfalso; apply hxy; simp only [decide_eq_decide]; omega
      refine ⟨d, by omega, funext fun b => ?_⟩
      rw [e b]
      simp only [hd2, if_true, decide_eq_decide]; omega
    · have h1d : 1 ≤ d := by omega
      refine ⟨M.n - 1 + (d - 1), by omega, funext fun b => ?_⟩
      rw [e b]
      have hx : ¬ M.n - 1 + (d - 1) < M.n - 1 := by omega
      have hy : M.n - 1 + (d - 1) - (M.n - 1) + 1 = d := by omega
      simp only [hx, if_false, hy, decide_eq_decide]; omega
    · exfalso; apply hxy; simp only [decide_eq_decide]; omega

/-- The parity, or its negation. -/
theorem size_odd (h1 : 1 ≤ M.n) (c : Nat) (hs : ∀ a, M.sem f a = decide ((cnt 0 M.n a + c) % 2 = 1)) : M.size f = 2 * M.n - 1 := by
  refine size_family h hf (2 * M.n - 1) (fun j b => if j < M.n then decide ((cnt j (M.n - j) b + c) % 2 = 1) else decide ((cnt (j - M.n + 1) (M.n - (j - M.n + 1)) b + c + 1) % 2 = 1)) ?_ ?_ ?_ ?_
  · have key : ∀ i j, i < j → j < 2 * M.n - 1 → (fun b => if i < M.n then decide ((cnt i (M.n - i) b + c) % 2 = 1) else decide ((cnt (i - M.n + 1) (M.n - (i - M.n + 1)) b + c + 1) % 2 = 1)) ≠
        (fun b => if j < M.n then decide ((cnt j (M.n - j) b + c) % 2 = 1) else decide ((cnt (j - M.n + 1) (M.n - (j - M.n + 1)) b + c + 1) % 2 = 1)) := fun i j hij hj e => by
      have z := congrFun e (fun _ => false)
      by_cases hi1 : i < M.n
      · by_cases hj1 : j < M.n
        · have := congrFun e (sg i)
          simp only [hi1, hj1, if_true, decide_eq_decide] at this
          rw [cnt_sg_in i _ _ (by omega) (by omega), cnt_sg_out j _ _ (by omega)] at this
          omega
        · simp only [hi1, hj1, if_true, if_false, decide_eq_decide, cnt_false] at z
          omega
      · have hj1 : ¬ j < M.n := by omega
        have := congrFun e (sg (i - M.n + 1))
        simp only [hi1, hj1, if_false, decide_eq_decide] at this
        rw [cnt_sg_in _ _ _ (by omega) (by omega), cnt_sg_out _ _ _ (by omega)] at this
        omega
    intro i j hi hj e
    rcases Nat.lt_trichotomy i j with x | x | x
    · exact (key i j x hj e).elim
    · exact x
    · exact (key j i x hi e.symm).elim
  · intro i hi
    refine ⟨sg (M.n - 1), fun _ => false, ?_⟩
    by_cases hi1 : i < M.n
    · simp only [hi1, if_true, cnt_false, ne_eq, decide_eq_decide]
      rw [cnt_sg_in _ _ _ (by omega) (by omega)]; omega
    · simp only [hi1, if_false, cnt_false, ne_eq, decide_eq_decide]
      rw [cnt_sg_in _ _ _ (by omega) (by omega)]; omega
  · intro i hi
    by_cases hi1 : i < M.n
    · refine ⟨i, fun _ => false, fun b => ?_⟩
      rw [cof_cnt hp (fun x => decide ((x + c) % 2 = 1)) hs i _ b (by omega), cnt_false]
      simp [hi1]
    · refine ⟨i - M.n + 1, sg 0, fun b => ?_⟩
      rw [cof_cnt hp (fun x => decide ((x + c) % 2 = 1)) hs _ _ b (by omega), cnt_sg_in _ _ _ (by omega) (by omega)]
      simp only [hi1, if_false, decide_eq_decide]; omega
  · intro d a hn
    have hd := cof_far hp (fun x => decide ((x + c) % 2 = 1)) hs d a hn
    have e : ∀ b, M.sem f (M.mix d a b) = decide ((cnt 0 d a + cnt d (M.n - d) b + c) % 2 = 1) := fun b => cof_cnt hp (fun x => decide ((x + c) % 2 = 1)) hs d a b (by omega)
    have l1 := cnt_le 0 d a
    by_cases hc : cnt 0 d a % 2 = 0
    · refine ⟨d, by omega, funext fun b => ?_⟩
      rw [e b]
      simp only [hd, if_true, decide_eq_decide]; omega
    · have h1d : 1 ≤ d := by omega
      refine ⟨M.n + (d - 1), by omega, funext fun b => ?_⟩
      rw [e b]
      have hx : ¬ M.n + (d - 1) < M.n := by omega
      have hy : M.n + (d - 1) - M.n + 1 = d := by omega
      simp only [hx, if_false, hy, decide_eq_decide]; omega
end

end Mgr
end Go.Proofs.YtgglkldoclejaaaDoor
