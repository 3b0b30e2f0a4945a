/-
  Plain mathematics: exchanging the current and the next packet; sharper counts of cofactors of ranges and packets.
-/
import Derived.Test.YtohinonkfhkclaaDoorRm
import Derived.Test.YtohinonkfhkclaaDoorMm
namespace Go.Proofs.YtohinonkfhkclaaDoor
open Go.RowKit

/-! ### ranges have at most nine cofactors a level -/
theorem bval_split (g : Nat → Bool) (r : Nat) : ∀ m, bval g (r + m) = bval g r + 2 ^ r * bval (fun i => g (r + i)) m
  | 0 => by simp [bval]
  | m + 1 => by
    rw [show r + (m + 1) = (r + m) + 1 by omega]
    simp only [bval]
    rw [bval_split g r m, Nat.mul_add, Nat.pow_add]
    by_cases h : g (r + m) = true <;> simp [h] <;> omega
def cmp3 (x y : Nat) : Nat := if x < y then 0 else if x = y then 1 else 2
theorem cmp3_lt (x y : Nat) : cmp3 x y < 3 := by unfold cmp3; split; omega; split <;> omega
theorem cmp3_le {r lo V V' w : Nat} (hw : w < 2 ^ r) (h : cmp3 V (lo / 2 ^ r) = cmp3 V' (lo / 2 ^ r)) : (lo ≤ w + 2 ^ r * V ↔ lo ≤ w + 2 ^ r * V') ∧ (w + 2 ^ r * V ≤ lo ↔ w + 2 ^ r * V' ≤ lo) := by
  have hp : 0 < 2 ^ r := Nat.pow_pos (by omega)
  have e := Nat.div_add_mod lo (2 ^ r)
  have hm := Nat.mod_lt lo hp
  have below : ∀ x, x < lo / 2 ^ r → w + 2 ^ r * x < lo := fun x hx => by
    have := Nat.mul_le_mul_left (2 ^ r) (show x + 1 ≤ lo / 2 ^ r from hx)
    rw [Nat.mul_add] at this; omega
  have above : ∀ x, lo / 2 ^ r < x → lo < w + 2 ^ r * x := fun x hx => by
    have := Nat.mul_le_mul_left (2 ^ r) (show lo / 2 ^ r + 1 ≤ x from hx)
    rw [Nat.mul_add] at this; omega
  unfold cmp3 at h
  by_cases h1 : V < lo / 2 ^ r
  · rw [if_pos h1] at h
    by_cases h2 : V' < lo / 2 ^ r
    · have := below V h1
      have := below V' h2
      omega
    · rw [if_neg h2] at h; split at h <;> omega
  · rw [if_neg h1] at h
    by_cases h2 : V' < lo / 2 ^ r
    · rw [if_pos h2] at h; split at h <;> omega
    · rw [if_neg h2] at h
      by_cases h3 : V = lo / 2 ^ r
      · rw [if_pos h3] at h
        by_cases h4 : V' = lo / 2 ^ r
        · rw [h3, h4]; exact ⟨Iff.rfl, Iff.rfl⟩
        · rw [if_neg h4] at h; omega
      · rw [if_neg h3] at h
        by_cases h4 : V' = lo / 2 ^ r
        · rw [if_pos h4] at h; omega
        · have := above V (by omega)
          have := above V' (by omega)
          omega
theorem rgF_nine {k : Nat} {nx : Bool} (hk : k < 5) (lo hi : Nat) : PSt 220 (rgF k nx lo hi) 9 := fun M hn hp => by
  refine ⟨fun d a => 3 * cmp3 (bval (fun i => fbit k nx a ((fw k - (d - fvar k 0 nx + 1) / 2) + i)) (fw k - (fw k - (d - fvar k 0 nx + 1) / 2))) (lo / 2 ^ (fw k - (d - fvar k 0 nx + 1) / 2)) + cmp3 (bval (fun i => fbit k nx a ((fw k - (d - fvar k 0 nx + 1) / 2) + i)) (fw k - (fw k - (d - fvar k 0 nx + 1) / 2))) (hi / 2 ^ (fw k - (d - fvar k 0 nx + 1) / 2)), fun d a => ?_, fun d a a' e b => ?_⟩
  · have h1 := cmp3_lt (bval (fun i => fbit k nx a ((fw k - (d - fvar k 0 nx + 1) / 2) + i)) (fw k - (fw k - (d - fvar k 0 nx + 1) / 2))) (lo / 2 ^ (fw k - (d - fvar k 0 nx + 1) / 2))
    have h2 := cmp3_lt (bval (fun i => fbit k nx a ((fw k - (d - fvar k 0 nx + 1) / 2) + i)) (fw k - (fw k - (d - fvar k 0 nx + 1) / 2))) (hi / 2 ^ (fw k - (d - fvar k 0 nx + 1) / 2))
    dsimp only; omega
  · dsimp only at e
    have hr : fw k - (d - fvar k 0 nx + 1) / 2 ≤ fw k := Nat.sub_le _ _
    have hv : ∀ i, i < fw k → (i < fw k - (d - fvar k 0 nx + 1) / 2 ↔ d ≤ fvar k (fw k - 1 - i) nx) := fun i hi => by
      have h1 := fvar_eq k 0 nx
      have h2 := fvar_eq k (fw k - 1 - i) nx
      omega
    generalize fw k - (d - fvar k 0 nx + 1) / 2 = r at *
    have spl : ∀ x : Nat → Bool, fval k nx (M.mix d x b) = bval (fbit k nx b) r + 2 ^ r * bval (fun i => fbit k nx x (r + i)) (fw k - r) := fun x => by
      unfold fval
      have e1 : fw k = r + (fw k - r) := by omega
      conv => lhs; rw [e1]
      rw [bval_split]
      congr 1
      · refine bval_congr _ (fun i hi => ?_)
        unfold fbit Mgr.mix
        rw [hp _ (by rw [hn]; exact fvar_lt hk (by omega) nx), if_neg (by have := (hv i (by omega)).1 hi; omega)]
      · congr 1
        refine bval_congr _ (fun i hi => ?_)
        unfold fbit Mgr.mix
        rw [hp _ (by rw [hn]; exact fvar_lt hk (by omega) nx), if_pos (by
          rcases Nat.lt_or_ge (fvar k (fw k - 1 - (r + i)) nx) d with h | h
          · exact h
          · have := (hv (r + i) (by omega)).2 h; omega)]
    have hw := bval_lt (fbit k nx b) r
    have c1 := cmp3_lt (bval (fun i => fbit k nx a (r + i)) (fw k - r)) (hi / 2 ^ r)
    have c2 := cmp3_lt (bval (fun i => fbit k nx a' (r + i)) (fw k - r)) (hi / 2 ^ r)
    have k1 := (cmp3_le (lo := lo) hw (show cmp3 (bval (fun i => fbit k nx a (r + i)) (fw k - r)) (lo / 2 ^ r) = cmp3 (bval (fun i => fbit k nx a' (r + i)) (fw k - r)) (lo / 2 ^ r) by omega)).1
    have k2 := (cmp3_le (lo := hi) hw (show cmp3 (bval (fun i => fbit k nx a (r + i)) (fw k - r)) (hi / 2 ^ r) = cmp3 (bval (fun i => fbit k nx a' (r + i)) (fw k - r)) (hi / 2 ^ r) by omega)).2
    unfold rgF
    rw [spl a, spl a', Bool.eq_iff_iff, decide_eq_true_eq, decide_eq_true_eq]
    exact and_congr k1 k2

/-! ### packets -/
/-- The set of one packet, from field 5 - j on. -/
def pkF (q : Pkt) (nx : Bool) : Nat → Bfn
  | 0 => fun _ => true
  | j + 1 => fun a => rgF (4 - j) nx (q.f (4 - j)) (q.f (4 - j)) a && pkF q nx j a
theorem pkF_rd (q : Pkt) (nx : Bool) : ∀ j, j ≤ 5 → Rd (220 - 2 * ([0, 16, 32, 40, 72, 104].getD j 0)) 220 (pkF q nx j)
  | 0, _ => Rd.const _ _ _
  | j + 1, h => by
    have ih := pkF_rd q nx j (by omega)
    have r := rgF_rd (k := 4 - j) (nx := nx) (q.f (4 - j)) (q.f (4 - j))
    have e : ∀ k, fvar k 0 nx = 12 + 2 * (ff k + 0) + (if nx then 1 else 0) := fun k => fvar_eq k 0 nx
    rcases (show j = 0 ∨ j = 1 ∨ j = 2 ∨ j = 3 ∨ j = 4 by omega) with rfl | rfl | rfl | rfl | rfl <;>
      exact Rd.op (fun x y => x && y) (r.mono (by rw [e]; simp [ff]; try omega) (by decide)) (ih.mono (by decide) (by decide))
theorem pkF_st (q : Pkt) (nx : Bool) : ∀ j, j ≤ 5 → PSt 220 (pkF q nx j) (10 * j + 1)
  | 0, _ => PSt.const _ _
  | j + 1, h => by
    have ih := pkF_rd q nx j (by omega)
    have r := rgF_rd (k := 4 - j) (nx := nx) (q.f (4 - j)) (q.f (4 - j))
    have st := rgF_nine (k := 4 - j) (nx := nx) (by omega) (q.f (4 - j)) (q.f (4 - j))
    have := PSt.and_above (n := 220) r ih (by rcases (show j = 0 ∨ j = 1 ∨ j = 2 ∨ j = 3 ∨ j = 4 by omega) with rfl | rfl | rfl | rfl | rfl <;> decide) (by rcases (show j = 0 ∨ j = 1 ∨ j = 2 ∨ j = 3 ∨ j = 4 by omega) with rfl | rfl | rfl | rfl | rfl <;> decide) (by omega) st (pkF_st q nx j (by omega))
    exact this.mono (by omega)

section
variable (m : Mt) (nx : Bool)
theorem mfx_few : PSt 220 (mfx m nx) 210 := by
  unfold mfx; split
  · exact (PSt.and_above (mf1_rd m nx) (rgF_rd (k := 2) (nx := nx) _ _) (by rw [fvar_eq]; show 140 ≤ 12 + 2 * (64 + 0) + _; omega) (by decide) (by decide) (mf1_st m nx) (rgF_nine (by omega) _ _)).mono (by omega)
  · exact (mf1_st m nx).mono (by omega)
theorem mf3_few : PSt 220 (mf3 m nx) 220 :=
  (PSt.and_above (mfx_rd m nx) (rgF_rd (k := 3) (nx := nx) _ _) (by rw [fvar_eq]; show 156 ≤ 12 + 2 * (72 + 0) + _; omega) (by decide) (by decide) (mfx_few m nx) (rgF_nine (by omega) _ _)).mono (by omega)
theorem mtF_few : PSt 220 (mtF m nx) 230 :=
  (PSt.and_above (mf3_rd m nx) (rgF_rd (k := 4) (nx := nx) _ _) (by rw [fvar_eq]; show 188 ≤ 12 + 2 * (88 + 0) + _; omega) (by decide) (by decide) (mf3_few m nx) (rgF_nine (by omega) _ _)).mono (by omega)
end

/-! ### the exchange -/
/-- The variable at the other place of a pair. -/
def xch (v : Nat) : Nat := if v < 12 then v else if v % 2 = 0 then v + 1 else v - 1
theorem xch_lt {v : Nat} (h : v < 220) : xch v < 220 := by unfold xch; split; omega; split <;> omega
theorem xch_below {v d : Nat} : (xch v < d) ↔ (if 12 < d ∧ d % 2 = 1 then v < d - 1 ∨ v = d else v < d) := by
  unfold xch
  split
  · split <;> omega
  · split <;> split <;> omega
theorem rn_rd {t : Nat → Nat} (ht : ∀ v, v < 220 → t v = xch v) {F : Bfn} (hF : Rd 0 220 F) : Rd 0 220 (rnF t F) := fun a b hab => hF _ _ (fun v _ hv => by rw [ht v hv]; exact hab _ (by omega) (xch_lt hv))
theorem rn_eq {t : Nat → Nat} (ht : ∀ v, v < 220 → t v = xch v) {F : Bfn} (hF : Rd 0 220 F) : rnF t F = rnF xch F := funext fun a => hF _ _ (fun v _ hv => by rw [ht v hv])
theorem rn_st {t : Nat → Nat} (ht : ∀ v, v < 220 → t v = xch v) {F : Bfn} {s : Nat} (hF : Rd 0 220 F) (hs : PSt 220 F s) : PSt 220 (rnF t F) (2 * s) := fun M hn hp => by
  obtain ⟨st, h1, h2⟩ := hs M hn hp
  have key : ∀ d a b, rnF t F (M.mix d a b) = F (M.mix (if 12 < d ∧ d % 2 = 1 then d - 1 else d) (fun v => a (xch v)) (fun v => if (12 < d ∧ d % 2 = 1) ∧ v = d then a (d - 1) else b (xch v))) := fun d a b => hF _ _ (fun v _ hv => by
    rw [ht v hv]
    unfold Mgr.mix
    have hx := xch_lt hv
    rw [hp _ (by rw [hn]; exact hx), hp _ (by rw [hn]; exact hv)]
    have hb := xch_below (v := v) (d := d)
    dsimp only
    by_cases od : 12 < d ∧ d % 2 = 1
    · rw [if_pos od] at hb
      simp only [od, and_self, true_and, if_true]
      by_cases e : v < d - 1
      · rw [if_pos (hb.2 (.inl e)), if_pos e]
      · by_cases e2 : v = d
        · have ex : xch v = d - 1 := by unfold xch; rw [if_neg (by omega), if_neg (by omega)]; omega
          rw [if_pos (hb.2 (.inr e2)), if_neg e, if_pos e2, ex]
        · rw [if_neg (show ¬ xch v < d from fun z => by rcases hb.1 z with z | z <;> omega), if_neg e, if_neg e2]
    · rw [if_neg od] at hb
      simp only [od, false_and, if_false]
      by_cases e : v < d
      · rw [if_pos (hb.2 e), if_pos e]
      · rw [if_neg (show ¬ xch v < d from fun z => e (hb.1 z)), if_neg e])
  refine ⟨fun d a => 2 * st (if 12 < d ∧ d % 2 = 1 then d - 1 else d) (fun v => a (xch v)) + (if a (d - 1) then 1 else 0), fun d a => ?_, fun d a a' e b => ?_⟩
  · have := h1 (if 12 < d ∧ d % 2 = 1 then d - 1 else d) (fun v => a (xch v))
    have : (if a (d - 1) then 1 else 0) ≤ 1 := by split <;> omega
    dsimp only
    omega
  · dsimp only at e
    have e1 : st (if 12 < d ∧ d % 2 = 1 then d - 1 else d) (fun v => a (xch v)) = st (if 12 < d ∧ d % 2 = 1 then d - 1 else d) (fun v => a' (xch v)) := by
      by_cases x : a (d - 1) = true <;> by_cases y : a' (d - 1) = true <;> simp only [x, y, if_true, Bool.false_eq_true, if_false] at e <;> omega
    have e2 : a (d - 1) = a' (d - 1) := by
      rw [e1] at e
      cases x : a (d - 1) <;> cases y : a' (d - 1) <;> simp [x, y] at e ⊢
    rw [key, key, e2]
    exact h2 _ _ _ e1 _

theorem code2 {s p q p' q' : Nat} (hq : q < s) (hq' : q' < s) (e : p * s + q = p' * s + q') : p = p' ∧ q = q' := by
  have hp : p = p' := by
    rcases Nat.lt_trichotomy p p' with h | h | h
    · have : (p + 1) * s ≤ p' * s := Nat.mul_le_mul_right _ h
      rw [Nat.add_mul] at this; omega
    · exact h
    · have : (p' + 1) * s ≤ p * s := Nat.mul_le_mul_right _ h
      rw [Nat.add_mul] at this; omega
  subst hp
  exact ⟨rfl, by omega⟩
/-- A cofactor of F whose remaining variables are exchanged, but for one. -/
def xcG (t : Nat → Nat) (F : Bfn) (E w : Nat) (c : Nat → Bool) : Bfn := fun b => F fun v => if v < E then c v else if w ≠ 0 ∧ v = E + (w - 1) / 2 then decide (w % 2 = 1) else b (t v)
theorem xch_listed {t : Nat → Nat} (ht : ∀ v, v < 220 → t v = xch v) {F : Bfn} {s : Nat} (hF : Rd 0 220 F) (hs : PSt 220 F s) (M : Mgr) (hn : M.n = 220) (hp : M.Plain) : Listed (M.RenF t F) (1105 * s + 220) := by
  obtain ⟨st, h1, h2⟩ := hs M hn hp
  have mx : ∀ E w c b, xcG t F E w c b = F (M.mix E c (fun v => if w ≠ 0 ∧ v = E + (w - 1) / 2 then decide (w % 2 = 1) else b (t v))) := fun E w c b => hF _ _ (fun v _ hv => by
    unfold Mgr.mix; rw [hp _ (by rw [hn]; exact hv)])
  have l1 : Listed (fun G => ∃ x : Nat × Nat × (Nat → Bool), (x.1 ≤ 220 ∧ x.2.1 < 5) ∧ xcG t F x.1 x.2.1 x.2.2 = G) (1105 * s) := Listed.code (A := Nat × Nat × (Nat → Bool)) (P := fun x => x.1 ≤ 220 ∧ x.2.1 < 5) (fun x => xcG t F x.1 x.2.1 x.2.2) (fun x => (x.1 * 5 + x.2.1) * s + st x.1 x.2.2)
    (fun x ⟨hx, hy⟩ => by
      have a1 := h1 x.1 x.2.2
      have : (x.1 * 5 + x.2.1 + 1) * s ≤ 1105 * s := Nat.mul_le_mul_right _ (by omega)
      rw [Nat.add_mul] at this
      omega)
    (fun x y ⟨hx, hx2⟩ ⟨hy, hy2⟩ e => by
      obtain ⟨e1, e2⟩ := code2 (h1 _ _) (h1 _ _) e
      have eE : x.1 = y.1 := by omega
      have ew : x.2.1 = y.2.1 := by omega
      funext b
      show xcG t F x.1 x.2.1 x.2.2 b = xcG t F y.1 y.2.1 y.2.2 b
      rw [mx, mx, ← eE, ← ew]
      rw [← eE] at e2
      exact h2 _ _ _ e2 _)
    (fun G h => h)
  have l2 : Listed (fun G => ∃ v, v < M.n ∧ G = fun a => a v) 220 := ⟨fun v a => a v, fun G ⟨v, hv, e⟩ => ⟨v, by omega, e.symm⟩⟩
  refine (l1.or l2).mono (fun G hG => ?_) (Nat.le_refl _)
  rcases hG with ⟨d', a', d, a, rfl⟩ | hG
  · left
    have fin : ∀ E w, E ≤ 220 → w < 5 → (∀ v, v < 220 → ∀ b : Nat → Bool, (if v < d' then a' v else if xch v < d then a (xch v) else b (xch v)) = if v < E then (if v < d' then a' v else a (xch v)) else if w ≠ 0 ∧ v = E + (w - 1) / 2 then decide (w % 2 = 1) else b (xch v)) →
        ∃ x : Nat × Nat × (Nat → Bool), (x.1 ≤ 220 ∧ x.2.1 < 5) ∧ xcG t F x.1 x.2.1 x.2.2 = fun b => rnF t (fun x => F (M.mix d' a' x)) (M.mix d a b) := fun E w hE hw h => by
      refine ⟨(E, w, fun v => if v < d' then a' v else a (xch v)), ⟨hE, hw⟩, funext fun b => ?_⟩
      refine hF _ _ (fun v _ hv => ?_)
      show (if v < E then _ else if w ≠ 0 ∧ v = E + (w - 1) / 2 then decide (w % 2 = 1) else b (t v)) = M.mix d' a' (fun u => M.mix d a b (t u)) v
      unfold Mgr.mix
      dsimp only
      rw [hp v (by omega), ht v hv, hp (xch v) (by rw [hn]; exact xch_lt hv)]
      exact (h v hv b).symm
    by_cases od : (12 < d ∧ d % 2 = 1) ∧ d < 220
    · have hb : ∀ v, xch v < d ↔ (v < d - 1 ∨ v = d) := fun v => by rw [xch_below, if_pos od.1]
      have ex : xch d = d - 1 := by unfold xch; rw [if_neg (by omega), if_neg (by omega)]
      by_cases c1 : d' ≤ d - 1
      · refine fin (d - 1) (if a (d - 1) then 3 else 4) (by omega) (by split <;> omega) (fun v hv b => ?_)
        by_cases x1 : v < d - 1
        · rw [if_pos x1]
          by_cases x2 : v < d'
          · rw [if_pos x2, if_pos x2]
          · rw [if_neg x2, if_neg x2, if_pos ((hb v).2 (.inl x1))]
        · rw [if_neg x1, if_neg (show ¬ v < d' by omega)]
          by_cases x2 : v = d
          · subst x2
            rw [if_pos ((hb v).2 (.inr rfl)), ex]
            cases a (v - 1)
            · simp; omega
            · simp; omega
          · rw [if_neg (fun z => by rcases (hb v).1 z with z | z <;> omega), if_neg]
            rintro ⟨_, z⟩
            apply x2
            cases hh : a (d - 1) <;> simp [hh] at z <;> omega
      · by_cases c2 : d' = d
        · refine fin d (if a (d - 1) then 1 else 2) (by omega) (by split <;> omega) (fun v hv b => ?_)
          by_cases x1 : v < d
          · rw [if_pos x1, if_pos (show v < d' by omega), if_pos (show v < d' by omega)]
          · rw [if_neg x1, if_neg (show ¬ v < d' by omega)]
            by_cases x2 : v = d
            · rw [if_pos ((hb v).2 (.inr x2)), x2, ex]
              cases a (d - 1)
              · simp
              · simp
            · rw [if_neg (fun z => by rcases (hb v).1 z with z | z <;> omega), if_neg]
              rintro ⟨_, z⟩
              apply x2
              cases hh : a (d - 1) <;> simp [hh] at z <;> omega
        · refine fin (min 220 d') 0 (by omega) (by omega) (fun v hv b => ?_)
          by_cases x1 : v < d'
          · rw [if_pos x1, if_pos (show v < min 220 d' by omega), if_pos x1]
          · rw [if_neg x1, if_neg (show ¬ v < min 220 d' by omega), if_neg (show ¬ xch v < d from fun z => by rcases (hb v).1 z with z | z <;> omega), if_neg (show ¬ (0 ≠ 0 ∧ v = min 220 d' + (0 - 1) / 2) from fun z => z.1 rfl)]
    · have hb : ∀ v, v < 220 → (xch v < d ↔ v < d) := fun v hv => by
        rw [xch_below]
        split
        · omega
        · exact Iff.rfl
      refine fin (min 220 (max d' d)) 0 (by omega) (by omega) (fun v hv b => ?_)
      by_cases x1 : v < d'
      · rw [if_pos x1, if_pos (show v < min 220 (max d' d) by omega), if_pos x1]
      · rw [if_neg x1]
        by_cases x2 : v < d
        · rw [if_pos ((hb v hv).2 x2), if_pos (show v < min 220 (max d' d) by omega), if_neg x1]
        · rw [if_neg (show ¬ xch v < d from fun z => x2 ((hb v hv).1 z)), if_neg (show ¬ v < min 220 (max d' d) by omega), if_neg (show ¬ (0 ≠ 0 ∧ v = min 220 (max d' d) + (0 - 1) / 2) from fun z => z.1 rfl)]
  · exact .inr hG
end Go.Proofs.YtohinonkfhkclaaDoor
