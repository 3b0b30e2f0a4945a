/-
  Walks: 'Same' of the package header.
-/
import Derived.Test.YtcebhlhpmdladaaGreatDoorHpm
import Derived.Test.YtcebhlhpmdladaaGreatDoorRm
import Derived.Test.YtcebhlhpmdladaaGreatDoorHw6
namespace Go.Proofs.YtcebhlhpmdladaaGreatDoor
open Go.RowKit

structure Mt where
  sa : Nat
  sl : Int
  da : Nat
  dl : Int
  pr : Int
  s0 : Int
  s1 : Int
  d0 : Int
  d1 : Int
section
variable {x y : World} {b : Nat} {m : Mt}
end

end Go.Proofs.YtcebhlhpmdladaaGreatDoor

namespace Go.Proofs.YtcebhlhpmdladaaGreatDoor
open Go.RowKit

/-! ### ranges have at most nine cofactors a level -/
theorem bval_split (g : Nat → Bool) (r : Nat) : ∀ m, bval g (r + m) = bval g r + 2 ^ r * bval (fun i => g (r + i)) m
  | 0 => by simp [bval]
  | m + 1 => by
    rw [show r + (m + 1) = (r + m) + 1 by omega]
    simp only [bval]
    rw [bval_split g r m, Nat.mul_add, Nat.pow_add]
    by_cases h : g (r + m) = true <;> simp [h] <;> omega
def cmp3 (x y : Nat) : Nat := if x < y then 0 else if x = y then 1 else 2
theorem cmp3_lt (x y : Nat) : cmp3 x y < 3 := by unfold cmp3; split; omega; split <;> omega
theorem cmp3_le {r lo V V' w : Nat} (hw : w < 2 ^ r) (h : cmp3 V (lo / 2 ^ r) = cmp3 V' (lo / 2 ^ r)) : (lo ≤ w + 2 ^ r * V ↔ lo ≤ w + 2 ^ r * V') ∧ (w + 2 ^ r * V ≤ lo ↔ w + 2 ^ r * V' ≤ lo) := by
  have hp : 0 < 2 ^ r := Nat.pow_pos (by omega)
  have e := Nat.div_add_mod lo (2 ^ r)
  have hm := Nat.mod_lt lo hp
  have below : ∀ x, x < lo / 2 ^ r → w + 2 ^ r * x < lo := fun x hx => by
    have := Nat.mul_le_mul_left (2 ^ r) (show x + 1 ≤ lo / 2 ^ r from hx)
    rw [Nat.mul_add] at this; omega
  have above : ∀ x, lo / 2 ^ r < x → lo < w + 2 ^ r * x := fun x hx => by
    have := Nat.mul_le_mul_left (2 ^ r) (show lo / 2 ^ r + 1 ≤ x from hx)
    rw [Nat.mul_add] at this; omega
  unfold cmp3 at h
  by_cases h1 : V < lo / 2 ^ r
  · rw [if_pos h1] at h
    by_cases h2 : V' < lo / 2 ^ r
    · have := below V h1
      have := below V' h2
      omega
    · rw [if_neg h2] at h; split at h <;> omega
  · rw [if_neg h1] at h
    by_cases h2 : V' < lo / 2 ^ r
    · rw [if_pos h2] at h; split at h <;> omega
    · rw [if_neg h2] at h
      by_cases h3 : V = lo / 2 ^ r
      · rw [if_pos h3] at h
        by_cases h4 : V' = lo / 2 ^ r
        · rw [h3, h4]; exact ⟨Iff.rfl, Iff.rfl⟩
        · rw [if_neg h4] at h; omega
      · rw [if_neg h3] at h
        by_cases h4 : V' = lo / 2 ^ r
        · rw [if_pos h4] at h; omega
        · have := above V (by omega)
          have := above V' (by omega)
          omega
theorem rgF_nine {k : Nat} {nx : Bool} (hk : k < 5) (lo hi : Nat) : PSt 220 (rgF k nx lo hi) 9 := fun M hn hp => by
  refine ⟨fun d a => 3 * cmp3 (bval (fun i => fbit k nx a ((fw k - (d - fvar k 0 nx + 1) / 2) + i)) (fw k - (fw k - (d - fvar k 0 nx + 1) / 2))) (lo / 2 ^ (fw k - (d - fvar k 0 nx + 1) / 2)) + cmp3 (bval (fun i => fbit k nx a ((fw k - (d - fvar k 0 nx + 1) / 2) + i)) (fw k - (fw k - (d - fvar k 0 nx + 1) / 2))) (hi / 2 ^ (fw k - (d - fvar k 0 nx + 1) / 2)), fun d a => ?_, fun d a a' e b => ?_⟩
  · have h1 := cmp3_lt (bval (fun i => fbit k nx a ((fw k - (d - fvar k 0 nx + 1) / 2) + i)) (fw k - (fw k - (d - fvar k 0 nx + 1) / 2))) (lo / 2 ^ (fw k - (d - fvar k 0 nx + 1) / 2))
    have h2 := cmp3_lt (bval (fun i => fbit k nx a ((fw k - (d - fvar k 0 nx + 1) / 2) + i)) (fw k - (fw k - (d - fvar k 0 nx + 1) / 2))) (hi / 2 ^ (fw k - (d - fvar k 0 nx + 1) / 2))
    dsimp only; omega
  · dsimp only at e
    have hr : fw k - (d - fvar k 0 nx + 1) / 2 ≤ fw k := Nat.sub_le _ _
    have hv : ∀ i, i < fw k → (i < fw k - (d - fvar k 0 nx + 1) / 2 ↔ d ≤ fvar k (fw k - 1 - i) nx) := fun i hi => by
      have h1 := fvar_eq k 0 nx
      have h2 := fvar_eq k (fw k - 1 - i) nx
      omega
    generalize fw k - (d - fvar k 0 nx + 1) / 2 = r at *
    have spl : ∀ x : Nat → Bool, fval k nx (M.mix d x b) = bval (fbit k nx b) r + 2 ^ r * bval (fun i => fbit k nx x (r + i)) (fw k - r) := fun x => by
      unfold fval
      have e1 : fw k = r + (fw k - r) := by omega
      conv => lhs; rw [e1]
      rw [bval_split]
      congr 1
      · refine bval_congr _ (fun i hi => ?_)
        unfold fbit Mgr.mix
        rw [hp _ (by rw [hn]; exact fvar_lt hk (by omega) nx), if_neg (by have := (hv i (by omega)).1 hi; omega)]
      · congr 1
        refine bval_congr _ (fun i hi => ?_)
        unfold fbit Mgr.mix
        rw [hp _ (by rw [hn]; exact fvar_lt hk (by omega) nx), if_pos (by
          rcases Nat.lt_or_ge (fvar k (fw k - 1 - (r + i)) nx) d with h | h
          · exact h
          · have := (hv (r + i) (by omega)).2 h; omega)]
    have hw := bval_lt (fbit k nx b) r
    have c1 := cmp3_lt (bval (fun i => fbit k nx a (r + i)) (fw k - r)) (hi / 2 ^ r)
    have c2 := cmp3_lt (bval (fun i => fbit k nx a' (r + i)) (fw k - r)) (hi / 2 ^ r)
    have k1 := (cmp3_le (lo := lo) hw (show cmp3 (bval (fun i => fbit k nx a (r + i)) (fw k - r)) (lo / 2 ^ r) = cmp3 (bval (fun i => fbit k nx a' (r + i)) (fw k - r)) (lo / 2 ^ r) by omega)).1
    have k2 := (cmp3_le (lo := hi) hw (show cmp3 (bval (fun i => fbit k nx a (r + i)) (fw k - r)) (hi / 2 ^ r) = cmp3 (bval (fun i => fbit k nx a' (r + i)) (fw k - r)) (hi / 2 ^ r) by omega)).2
    unfold rgF
    rw [spl a, spl a', Bool.eq_iff_iff, decide_eq_true_eq, decide_eq_true_eq]
    exact and_congr k1 k2

/-! ### packets -/
/-- The set of one packet, from field 5 - j on. -/
def pkF (q : Pkt) (nx : Bool) : Nat → Bfn
  | 0 => fun _ => true
  | j + 1 => fun a => rgF (4 - j) nx (q.f (4 - j)) (q.f (4 - j)) a && pkF q nx j a
theorem pkF_rd (q : Pkt) (nx : Bool) : ∀ j, j ≤ 5 → Rd (220 - 2 * ([0, 16, 32, 40, 72, 104].getD j 0)) 220 (pkF q nx j)
  | 0, _ => Rd.const _ _ _
  | j + 1, h => by
    have ih := pkF_rd q nx j (by omega)
    have r := rgF_rd (k := 4 - j) (nx := nx) (q.f (4 - j)) (q.f (4 - j))
    have e : ∀ k, fvar k 0 nx = 12 + 2 * (ff k + 0) + (if nx then 1 else 0) := fun k => fvar_eq k 0 nx
    rcases (show j = 0 ∨ j = 1 ∨ j = 2 ∨ j = 3 ∨ j = 4 by omega) with rfl | rfl | rfl | rfl | rfl <;>
      exact Rd.op (fun x y => x && y) (r.mono (by rw [e]; simp [ff]; try omega) (by decide)) (ih.mono (by decide) (by decide))
theorem pkF_st (q : Pkt) (nx : Bool) : ∀ j, j ≤ 5 → PSt 220 (pkF q nx j) (10 * j + 1)
  | 0, _ => PSt.const _ _
  | j + 1, h => by
    have ih := pkF_rd q nx j (by omega)
    have r := rgF_rd (k := 4 - j) (nx := nx) (q.f (4 - j)) (q.f (4 - j))
    have st := rgF_nine (k := 4 - j) (nx := nx) (by omega) (q.f (4 - j)) (q.f (4 - j))
    have := PSt.and_above (n := 220) r ih (by rcases (show j = 0 ∨ j = 1 ∨ j = 2 ∨ j = 3 ∨ j = 4 by omega) with rfl | rfl | rfl | rfl | rfl <;> decide) (by rcases (show j = 0 ∨ j = 1 ∨ j = 2 ∨ j = 3 ∨ j = 4 by omega) with rfl | rfl | rfl | rfl | rfl <;> decide) (by omega) st (pkF_st q nx j (by omega))
    exact this.mono (by omega)

section
variable (m : Mt) (nx : Bool)
end

/-! ### the exchange -/
/-- The variable at the other place of a pair. -/
def xch (v : Nat) : Nat := if v < 12 then v else if v % 2 = 0 then v + 1 else v - 1
theorem xch_lt {v : Nat} (h : v < 220) : xch v < 220 := by unfold xch; split; omega; split <;> omega
theorem xch_below {v d : Nat} : (xch v < d) ↔ (if 12 < d ∧ d % 2 = 1 then v < d - 1 ∨ v = d else v < d) := by
  unfold xch
  split
  · split <;> omega
  · split <;> split <;> omega
theorem rn_eq {t : Nat → Nat} (ht : ∀ v, v < 220 → t v = xch v) {F : Bfn} (hF : Rd 0 220 F) : rnF t F = rnF xch F := funext fun a => hF _ _ (fun v _ hv => by rw [ht v hv])
theorem code2 {s p q p' q' : Nat} (hq : q < s) (hq' : q' < s) (e : p * s + q = p' * s + q') : p = p' ∧ q = q' := by
  have hp : p = p' := by
    rcases Nat.lt_trichotomy p p' with h | h | h
    · have : (p + 1) * s ≤ p' * s := Nat.mul_le_mul_right _ h
      rw [Nat.add_mul] at this; omega
    · exact h
    · have : (p' + 1) * s ≤ p * s := Nat.mul_le_mul_right _ h
      rw [Nat.add_mul] at this; omega
  subst hp
  exact ⟨rfl, by omega⟩
/-- A cofactor of F whose remaining variables are exchanged, but for one. -/
def xcG (t : Nat → Nat) (F : Bfn) (E w : Nat) (c : Nat → Bool) : Bfn := fun b => F fun v => if v < E then c v else if w ≠ 0 ∧ v = E + (w - 1) / 2 then decide (w % 2 = 1) else b (t v)
theorem xch_listed {t : Nat → Nat} (ht : ∀ v, v < 220 → t v = xch v) {F : Bfn} {s : Nat} (hF : Rd 0 220 F) (hs : PSt 220 F s) (M : Mgr) (hn : M.n = 220) (hp : M.Plain) : Listed (M.RenF t F) (1105 * s + 220) := by
  obtain ⟨st, h1, h2⟩ := hs M hn hp
  have mx : ∀ E w c b, xcG t F E w c b = F (M.mix E c (fun v => if w ≠ 0 ∧ v = E + (w - 1) / 2 then decide (w % 2 = 1) else b (t v))) := fun E w c b => hF _ _ (fun v _ hv => by
    unfold Mgr.mix; rw [hp _ (by rw [hn]; exact hv)])
  have l1 : Listed (fun G => ∃ x : Nat × Nat × (Nat → Bool), (x.1 ≤ 220 ∧ x.2.1 < 5) ∧ xcG t F x.1 x.2.1 x.2.2 = G) (1105 * s) := Listed.code (A := Nat × Nat × (Nat → Bool)) (P := fun x => x.1 ≤ 220 ∧ x.2.1 < 5) (fun x => xcG t F x.1 x.2.1 x.2.2) (fun x => (x.1 * 5 + x.2.1) * s + st x.1 x.2.2)
    (fun x ⟨hx, hy⟩ => by
      have a1 := h1 x.1 x.2.2
      have : (x.1 * 5 + x.2.1 + 1) * s ≤ 1105 * s := Nat.mul_le_mul_right _ (by omega)
      rw [Nat.add_mul] at this
      omega)
    (fun x y ⟨hx, hx2⟩ ⟨hy, hy2⟩ e => by
      obtain ⟨e1, e2⟩ := code2 (h1 _ _) (h1 _ _) e
      have eE : x.1 = y.1 := by omega
      have ew : x.2.1 = y.2.1 := by omega
      funext b
      show xcG t F x.1 x.2.1 x.2.2 b = xcG t F y.1 y.2.1 y.2.2 b
      rw [mx, mx, ← eE, ← ew]
      rw [← eE] at e2
      exact h2 _ _ _ e2 _)
    (fun G h => h)
  have l2 : Listed (fun G => ∃ v, v < M.n ∧ G = fun a => a v) 220 := ⟨fun v a => a v, fun G ⟨v, hv, e⟩ => ⟨v, by omega, e.symm⟩⟩
  refine (l1.or l2).mono (fun G hG => ?_) (Nat.le_refl _)
  rcases hG with ⟨d', a', d, a, rfl⟩ | hG
  · left
    have fin : ∀ E w, E ≤ 220 → w < 5 → (∀ v, v < 220 → ∀ b : Nat → Bool, (if v < d' then a' v else if xch v < d then a (xch v) else b (xch v)) = if v < E then (if v < d' then a' v else a (xch v)) else if w ≠ 0 ∧ v = E + (w - 1) / 2 then decide (w % 2 = 1) else b (xch v)) →
        ∃ x : Nat × Nat × (Nat → Bool), (x.1 ≤ 220 ∧ x.2.1 < 5) ∧ xcG t F x.1 x.2.1 x.2.2 = fun b => rnF t (fun x => F (M.mix d' a' x)) (M.mix d a b) := fun E w hE hw h => by
      refine ⟨(E, w, fun v => if v < d' then a' v else a (xch v)), ⟨hE, hw⟩, funext fun b => ?_⟩
      refine hF _ _ (fun v _ hv => ?_)
      show (if v < E then _ else if w ≠ 0 ∧ v = E + (w - 1) / 2 then decide (w % 2 = 1) else b (t v)) = M.mix d' a' (fun u => M.mix d a b (t u)) v
      unfold Mgr.mix
      dsimp only
      rw [hp v (by omega), ht v hv, hp (xch v) (by rw [hn]; exact xch_lt hv)]
      exact (h v hv b).symm
    by_cases od : (12 < d ∧ d % 2 = 1) ∧ d < 220
    · have hb : ∀ v, xch v < d ↔ (v < d - 1 ∨ v = d) := fun v => by rw [xch_below, if_pos od.1]
      have ex : xch d = d - 1 := by unfold xch; rw [if_neg (by omega), if_neg (by omega)]
      by_cases c1 : d' ≤ d - 1
      · refine fin (d - 1) (if a (d - 1) then 3 else 4) (by omega) (by split <;> omega) (fun v hv b => ?_)
        by_cases x1 : v < d - 1
        · rw [if_pos x1]
          by_cases x2 : v < d'
          · rw [if_pos x2, if_pos x2]
          · rw [if_neg x2, if_neg x2, if_pos ((hb v).2 (.inl x1))]
        · rw [if_neg x1, if_neg (show ¬ v < d' by omega)]
          by_cases x2 : v = d
          · subst x2
            rw [if_pos ((hb v).2 (.inr rfl)), ex]
            cases a (v - 1)
            · simp; omega
            · simp; omega
          · rw [if_neg (fun z => by rcases (hb v).1 z with z | z <;> omega), if_neg]
            rintro ⟨_, z⟩
            apply x2
            cases hh : a (d - 1) <;> simp [hh] at z <;> omega
      · by_cases c2 : d' = d
        · refine fin d (if a (d - 1) then 1 else 2) (by omega) (by split <;> omega) (fun v hv b => ?_)
          by_cases x1 : v < d
          · rw [if_pos x1, if_pos (show v < d' by omega), if_pos (show v < d' by omega)]
          · rw [if_neg x1, if_neg (show ¬ v < d' by omega)]
            by_cases x2 : v = d
            · rw [if_pos ((hb v).2 (.inr x2)), x2, ex]
              cases a (d - 1)
              · simp
              · simp
            · rw [if_neg (fun z => by rcases (hb v).1 z with z | z <;> omega), if_neg]
              rintro ⟨_, z⟩
              apply x2
              cases hh : a (d - 1) <;> simp [hh] at z <;> omega
        · refine fin (min 220 d') 0 (by omega) (by omega) (fun v hv b => ?_)
          by_cases x1 : v < d'
          · rw [if_pos x1, if_pos (show v < min 220 d' by omega), if_pos x1]
          · rw [if_neg x1, if_neg (show ¬ v < min 220 d' by omega), if_neg (show ¬ xch v < d from fun z => by rcases (hb v).1 z with z | z <;> omega), if_neg (show ¬ (0 ≠ 0 ∧ v = min 220 d' + (0 - 1) / 2) from fun z => z.1 rfl)]
    · have hb : ∀ v, v < 220 → (xch v < d ↔ v < d) := fun v hv => by
        rw [xch_below]
        split
        · omega
        · exact Iff.rfl
      refine fin (min 220 (max d' d)) 0 (by omega) (by omega) (fun v hv b => ?_)
      by_cases x1 : v < d'
      · rw [if_pos x1, if_pos (show v < min 220 (max d' d) by omega), if_pos x1]
      · rw [if_neg x1]
        by_cases x2 : v < d
        · rw [if_pos ((hb v hv).2 x2), if_pos (show v < min 220 (max d' d) by omega), if_neg x1]
        · rw [if_neg (show ¬ xch v < d from fun z => x2 ((hb v hv).1 z)), if_neg (show ¬ v < min 220 (max d' d) by omega), if_neg (show ¬ (0 ≠ 0 ∧ v = min 220 (max d' d) + (0 - 1) / 2) from fun z => z.1 rfl)]
  · exact .inr hG
end Go.Proofs.YtcebhlhpmdladaaGreatDoor

namespace Go.Proofs.YtcebhlhpmdladaaGreatDoor
open Go.RowKit

/-- The last j bits of the header agree in the fields W. -/
def smR (W : Nat → Bool) (a : Nat → Bool) : Nat → Bool
  | 0 => true
  | j + 1 => if W (fieldOf (103 - j)) then (a (hvar (103 - j) false) == a (hvar (103 - j) true)) && smR W a j else smR W a j

theorem smR_rd (W : Nat → Bool) : ∀ j, j ≤ 104 → Rd (hvar (104 - j) false) 220 (fun a => smR W a j)
  | 0, _ => fun _ _ _ => rfl
  | j + 1, hj => by
    have ih := smR_rd W j (by omega)
    intro a b hab
    have e : 104 - (j + 1) = 103 - j := by omega
    rw [e] at hab
    have h1 : hvar (103 - j) false = 12 + 2 * (103 - j) := rfl
    have h2 : hvar (103 - j) true = 12 + 2 * (103 - j) + 1 := rfl
    have h3 : hvar (104 - j) false = 12 + 2 * (104 - j) := rfl
    have e1 := hab (hvar (103 - j) false) (Nat.le_refl _) (by omega)
    have e2 := hab (hvar (103 - j) true) (by omega) (by omega)
    have e3 : smR W a j = smR W b j := ih a b (fun v g1 g2 => hab v (by omega) g2)
    show (if _ then _ else _) = (if _ then _ else _)
    rw [e1, e2, e3]

theorem same_st (W : Nat → Bool) {j s : Nat} (hj : j < 104) (hs : PSt 220 (fun a => smR W a j) s) : PSt 220 (fun a => (a (hvar (103 - j) false) == a (hvar (103 - j) true)) && smR W a j) (s + 5) := by
  have h1 : hvar (103 - j) false = 12 + 2 * (103 - j) := rfl
  have h2 : hvar (103 - j) true = 12 + 2 * (103 - j) + 1 := rfl
  have h3 : hvar (104 - j) false = 12 + 2 * (104 - j) := rfl
  have r1 : Rd (hvar (103 - j) false) (hvar (103 - j) false + 2) (fun a => a (hvar (103 - j) false) == a (hvar (103 - j) true)) := fun a b hab => by
    show (a _ == a _) = (b _ == b _)
    rw [hab _ (Nat.le_refl _) (by omega), hab (hvar (103 - j) true) (by omega) (by omega)]
  have p1 : PSt 220 (fun a => a (hvar (103 - j) false) == a (hvar (103 - j) true)) 4 := PSt.op (fun x y => x == y) (PSt.var 220 _ (by omega)) (PSt.var 220 _ (by omega))
  exact (PSt.and_above r1 (smR_rd W j (by omega)) (by omega) (by omega) (Nat.le_refl _) p1 hs).mono (by omega)

theorem smR_st (W : Nat → Bool) : ∀ j, j ≤ 104 → PSt 220 (fun a => smR W a j) (1 + 5 * j)
  | 0, _ => PSt.const _ true
  | j + 1, hj => by
    have ih := smR_st W j (by omega)
    cases hw : W (fieldOf (103 - j))
    · exact (ih.congr (fun a => by show (if _ then _ else _) = _; rw [hw]; rfl)).mono (by omega)
    · exact ((same_st W (by omega) ih).congr (fun a => by show (if _ then _ else _) = _; rw [hw]; rfl)).mono (by omega)

theorem smR_skip (W : Nat → Bool) (a : Nat → Bool) (j : Nat) : ∀ i, (∀ x, x < i → W (fieldOf (103 - (j + x))) = false) → smR W a (j + i) = smR W a j
  | 0, _ => rfl
  | i + 1, h => by
    have := smR_skip W a j i (fun x hx => h x (by omega))
    rw [← this]
    have e : smR W a (j + (i + 1)) = if W (fieldOf (103 - (j + i))) then (a (hvar (103 - (j + i)) false) == a (hvar (103 - (j + i)) true)) && smR W a (j + i) else smR W a (j + i) := rfl
    rw [e, h i (by omega)]; rfl

theorem smR_eq (W : Nat → Bool) (a : Nat → Bool) : ∀ j, j ≤ 104 → (smR W a j = true ↔ ∀ u, 104 - j ≤ u → u < 104 → W (fieldOf u) = true → a (hvar u false) = a (hvar u true))
  | 0, _ => by exact ⟨fun _ u h1 h2 => by omega, fun _ => rfl⟩
  | j + 1, hj => by
    have ih := smR_eq W a j (by omega)
    have e : smR W a (j + 1) = if W (fieldOf (103 - j)) then (a (hvar (103 - j) false) == a (hvar (103 - j) true)) && smR W a j else smR W a j := rfl
    rw [e]
    cases hw : W (fieldOf (103 - j))
    · rw [if_neg (by decide), ih]
      constructor
      · intro h u h1 h2 h3
        by_cases hu : u = 103 - j
        · subst hu; rw [hw] at h3; cases h3
        · exact h u (by omega) h2 h3
      · intro h u h1 h2 h3; exact h u (by omega) h2 h3
    · rw [if_pos rfl, Bool.and_eq_true, ih, beq_iff_eq]
      constructor
      · intro ⟨h0, h⟩ u h1 h2 h3
        by_cases hu : u = 103 - j
        · subst hu; exact h0
        · exact h u (by omega) h2 h3
      · intro h
        exact ⟨h _ (by omega) (by omega) hw, fun u h1 h2 h3 => h u (by omega) h2 h3⟩

/-- What one step of 'Same' needs. -/
structure SmP (W : Nat → Bool) (j x y : Nat) : Prop where
  x220 : x < 220
  y220 : y < 220
  px : PSt 220 (fun a => a x ^^ a y) 4
  pn : PSt 220 (fun a => !(a x ^^ a y) && smR W a j) 600
  st : ∀ a, (!(a x ^^ a y) && smR W a j) = smR W a (j + 1)
theorem smP (W : Nat → Bool) {k b j : Nat} (hk : k < 5) (hb : b < fw k) (hj : j + (ff k + b) = 103) (hw : W k = true) : SmP W j (fvar k b false) (fvar k b true) := by
  have e : 103 - j = ff k + b := by omega
  have hf := fieldOf_at hk hb
  have hs := same_st W (by omega) (smR_st W j (by omega))
  rw [e] at hs
  refine ⟨fvar_lt hk hb _, fvar_lt hk hb _, PSt.op (fun x y => x ^^ y) (PSt.var 220 _ (fvar_lt hk hb _)) (PSt.var 220 _ (fvar_lt hk hb _)), (hs.congr (fun a => ?_)).mono (by omega), fun a => ?_⟩
  · show (!(a (hvar _ false) ^^ a (hvar _ true)) && _) = _
    cases a (hvar (ff k + b) false) <;> cases a (hvar (ff k + b) true) <;> rfl
  · have e1 : smR W a (j + 1) = if W (fieldOf (103 - j)) then (a (hvar (103 - j) false) == a (hvar (103 - j) true)) && smR W a j else smR W a j := rfl
    rw [e1, e, hf, hw, if_pos rfl]
    show (!(a (hvar _ false) ^^ a (hvar _ true)) && _) = _
    cases a (hvar (ff k + b) false) <;> cases a (hvar (ff k + b) true) <;> rfl

/-- The state of the first loop. -/
structure SmJ (w wr : World) (x : Nat → Bool) : Prop where
  arr : wr.heap[w.heap.size]? = some (.cells #[.bool (x 0), .bool (x 1), .bool (x 2), .bool (x 3), .bool (x 4)] 180 (0, 0))
  kp : Kp No w wr
section
variable {w wr w' : World} {x : Nat → Bool}
theorem SmJ.cell (j : SmJ w wr x) {k : Nat} (hk : k < 5) : wr.cell? ⟨w.heap.size, k, none⟩ = some (.bool (x k)) ∧ wr.frozen? ⟨w.heap.size, k, none⟩ = false := by
  refine ⟨?_, by simp [World.frozen?, j.arr]⟩
  rw [cell_of_row _ _ _ _ _ _ j.arr]
  rcases five hk with rfl | rfl | rfl | rfl | rfl <;> rfl
theorem SmJ.set (j : SmJ w wr x) {k : Nat} (hk : k < 5) (v : Bool) : SmJ w (wr.setCell ⟨w.heap.size, k, none⟩ (.bool v)) (Mgr.upd x k v) := by
  refine ⟨?_, j.kp.trans (A' := fun b => b = w.heap.size) (fun b e => .inr (by omega)) ((Kp.setCell _ _).mono (fun _ _ e => e))⟩
  rw [setCell_heap j.arr]
  rcases five hk with rfl | rfl | rfl | rfl | rfl <;> rfl
end

/-- The fields that are listed. -/
def wnt (l : List Int) : Nat → Bool := fun k => decide (k < 5) && decide ((k : Int) ∈ l)
theorem wnt_step (l : List Int) {k : Nat} (hk : k < l.length) {v : Nat} (hx : l.getD k 0 = (v : Int)) (hv : v < 5) : Mgr.upd (wnt (l.take k)) v true = wnt (l.take (k + 1)) := by
  funext u
  have e : l.take (k + 1) = l.take k ++ [l.getD k 0] := by rw [List.take_succ_eq_append_getElem hk]; simp [hk]
  unfold Mgr.upd wnt
  rw [e, hx]
  by_cases h : u = v
  · subst h; simp [hv]
  · rw [if_neg h]
    have : ((u : Int) ∈ l.take k ++ [(v : Int)]) ↔ (u : Int) ∈ l.take k := by simp; omega
    simp only [this]
theorem wnt_skip (l : List Int) {k : Nat} (hk : k < l.length) (hx : ¬ (0 ≤ l.getD k 0 ∧ l.getD k 0 < 5)) : wnt (l.take k) = wnt (l.take (k + 1)) := by
  funext u
  have e : l.take (k + 1) = l.take k ++ [l.getD k 0] := by rw [List.take_succ_eq_append_getElem hk]; simp [hk]
  unfold wnt
  rw [e]
  by_cases h : u < 5
  · have : ((u : Int) ∈ l.take k ++ [l.getD k 0]) ↔ (u : Int) ∈ l.take k := by
      rw [List.mem_append, List.mem_singleton]
      constructor
      · rintro (h1 | h1)
        · exact h1
        · exact (hx (by omega)).elim
      · exact .inl
    simp only [this]
  · simp [h]

def SmA (w : World) (l : List Int) (gk : Nat) (s : Value) (wr : World) : Prop := ∃ k, k + gk = l.length ∧ s = .int .i64 (k : Int) ∧ SmJ w wr (wnt (l.take k))
def SmO (w0 : World) (p : Nat) (L0 : Lay) (c : Nat) (B : List (Int × Bfn)) (W : Nat → Bool) (gk : Nat) (s8 s9 : Value) (wr : World) : Prop :=
  ∃ f M L, gk ≤ 5 ∧ s8 = .int .i64 f ∧ s9 = .int .i64 ((gk : Int) - 1) ∧ Hf w0 p L0 220 (c + (104 - fsum gk) * 150000) wr M L ((f, fun a => smR W a (104 - fsum gk)) :: B)
def SmI (w0 : World) (p : Nat) (L0 : Lay) (c : Nat) (B : List (Int × Bfn)) (W : Nat → Bool) (k fk j0 gk : Nat) (s8 s10 : Value) (wr : World) : Prop :=
  ∃ i f M L, i + gk = fk ∧ (W k = false → i = 0) ∧ s8 = .int .i64 f ∧ s10 = .int .i64 ((gk : Int) - 1) ∧ Hf w0 p L0 220 (c + (j0 + i) * 150000) wr M L ((f, fun a => smR W a (j0 + i)) :: B)

set_option maxRecDepth 100000 in
set_option maxHeartbeats 4000000 in
theorem Same_ok {p c : Nat} {M : Mgr} {L : Lay} {B : List (Int × Bfn)} (l : List Int) (hl : l.length ≤ 1000000) {dv : Value} {w : World} (R : Rep w p M L) (q : Qk 220 c M B) (g : Gl w) (ho : ¬ L.at p 0) (hd : SrcAt w dv 1 l.length (l.map intV)) (hc : c ≤ 500000000000) :
    Calls Tryz.prog 65 #[ptr p, dv] w (OpQ p 220 (c + 20000000) L w (fun a => smR (wnt l) a 104) B) := by
  have hboxL : ¬ L.at p w.heap.size := fun h => by have := R.lt _ h; omega
  obtain ⟨W, hW⟩ : ∃ W, W = wnt l := ⟨_, rfl⟩
  rw [← hW]
  have GLW := Lib.hid g
  have HD := Lib.hid hd
  have RQ := Lib.hid (And.intro R (And.intro q ho))
  have HBL := Lib.hid hboxL
  obtain ⟨ao, cp, rfl, _⟩ := hd
  clear g R q ho hboxL
  go_enter Tryz.func65, Tryz.ntmps65
  go_wp2_with fail
  have J0 : Hid (SmA w l l.length (.int .i64 0) (w.alloc (.cells #[.bool false, .bool false, .bool false, .bool false, .bool false] 180))) := Lib.hid ⟨0, by omega, rfl, ⟨heap_alloc_new _ _, Kp.alloc _⟩⟩
  go_loopg [15] l.length (fun gk s wr => SmA w l gk s wr)
  case atStart => exact J0.out
  case round =>
    clear J0
    obtain ⟨k, hk, rfl, j⟩ := hrel
    by_cases hlt : k < l.length
    · clear RQ
      have kw : Kp No w wr := j.kp
      have GLR := Lib.hid (GLW.out.no kw)
      obtain ⟨ao', c', hv', _, hcells⟩ := HD.out.no kw
      have hv1 : ao = ao' := by injection hv'
      subst hv1
      rcases hcells with hcells | ⟨g, o, rfl, hg, hcells⟩
      · rw [hcells] at hlt; simp at hlt
      have hc : wr.cell? ⟨g, o + k, none⟩ = some (.int .i64 (l.getD k 0)) := hcells k _ (by simp [hlt, intV])
      have hlti : (k : Int) < l.length := by omega
      have HK := Lib.hid hk
      by_cases hx : 0 ≤ l.getD k 0 ∧ l.getD k 0 < 5
      · obtain ⟨v, hv⟩ : ∃ v : Nat, l.getD k 0 = (v : Int) := ⟨(l.getD k 0).toNat, by omega⟩
        have hv5 : v < 5 := by omega
        obtain ⟨c1, z1⟩ := j.cell (k := v) hv5
        have JN : Hid (SmA w l (l.length - (k + 1)) (.int .i64 ((k + 1 : Nat) : Int)) (wr.setCell ⟨w.heap.size, v, none⟩ (.bool true))) := Lib.hid ⟨k + 1, by omega, rfl, by
          have := j.set hv5 true
          rw [wnt_step l hlt hv hv5] at this
          exact this⟩
        have WI := Lib.hid (fun (x : World) (h : Gl x) => Width_in v hv5 h)
        have hfp := fw_pos hv5
        have hfpi : (0 : Int) < (fw v : Int) := by omega
        rw [hv] at hc
        have hvi : (v : Int) < 5 := by omega
        generalize wnt (l.take k) v = old at *
        generalize fw v = f at *
        clear hk j kw hcells hx hv hv' hfp
        go_wp2_with fail
        refine (WI.out _ GLR.out).mono ?_
        rintro e w' ⟨rfl, rfl⟩
        clear WI
        go_wp2_with fail
        go_roundg (l.length - (k + 1))
        case measure => have := HK.out; omega
        case rel => exact JN.out
      · have JN : Hid (SmA w l (l.length - (k + 1)) (.int .i64 ((k + 1 : Nat) : Int)) wr) := Lib.hid ⟨k + 1, by omega, rfl, by rw [← wnt_skip l hlt hx]; exact j⟩
        have WO := Lib.hid (fun (x : World) => Width_out (l.getD k 0) hx x)
        generalize l.getD k 0 = y at *
        clear hk j kw hcells hx hv'
        go_wp2_with fail
        refine (WO.out _).mono ?_
        rintro e w' ⟨rfl, rfl⟩
        clear WO
        go_wp2_with fail
        go_roundg (l.length - (k + 1))
        case measure => have := HK.out; omega
        case rel => exact JN.out
    · obtain rfl : k = l.length := by omega
      rw [List.take_length, ← hW] at j
      have hlti : ¬ (l.length : Int) < l.length := by omega
      have H0 := Lib.hid (Hf.start (RQ.out.1.no j.kp) RQ.out.2.1 (GLW.out.no j.kp) RQ.out.2.2)
      have J := Lib.hid j
      have BX := Lib.hid j.arr
      have KA := Lib.hid j.kp
      have O0 : Hid (SmO wr p L c B W 5 (.int .i64 1) (.int .i64 4) wr) := Lib.hid (by
        refine ⟨1, M, L, by omega, rfl, rfl, ?_⟩
        have h := H0.out.consts
        rw [show 104 - fsum 5 = 0 from rfl, Nat.zero_mul, Nat.add_zero]
        exact h.sub (fun x hx => by
          rcases List.mem_cons.1 hx with rfl | hx
          · exact .tail _ (.head _)
          · exact .tail _ (.tail _ hx)))
      have hcl : ∀ (M2 : Mgr) (L2 : Lay) (c2 : Nat) (B2 : List (Int × Bfn)) (y : World), Hf wr p L 220 c2 y M2 L2 B2 → ∀ k, k < 5 → y.cell? ⟨w.heap.size, k, none⟩ = some (.bool (W k)) := fun M2 L2 c2 B2 y f2 k hk => by
        have bx := BX.out
        rw [← f2.sd.kp.block _ (heap_lt bx) HBL.out] at bx
        rw [cell_of_row _ _ _ _ _ _ bx]
        rcases five hk with rfl | rfl | rfl | rfl | rfl <;> rfl
      have HCL := Lib.hid hcl
      clear hk hlt j RQ H0 J BX HD hcl hW
      go_wp2_with fail
      generalize wr = wA at *
      go_loopg [8, 9] 5 (fun gk s8 s9 wr => SmO wA p L c B W gk s8 s9 wr)
      case atStart => exact O0.out
      case round =>
        clear O0
        obtain ⟨f, M1, L1, hg5, rfl, rfl, h⟩ := hrel
        by_cases hlt : 0 < gk
        · obtain ⟨k, rfl⟩ : ∃ k, gk = k + 1 := ⟨gk - 1, by omega⟩
          have hk5 : k < 5 := by omega
          have hki : ((k + 1 : Nat) : Int) - 1 = (k : Int) := by omega
          rw [hki]
          obtain ⟨e1, e2⟩ := fsum_lt hk5
          have hfp := fw_pos hk5
          have hfl := fw_le k
          have hff := ff_fw hk5
          have II : Hid (SmI wA p L c B W k (fw k) (104 - fsum (k + 1)) (fw k) (.int .i64 f) (.int .i64 ((fw k : Int) - 1)) wr) := Lib.hid ⟨0, f, M1, L1, by omega, fun _ => rfl, rfl, rfl, h⟩
          have WI := Lib.hid (Width_in k hk5 h.gl)
          have VI := Lib.hid (fun (x : World) (h : Gl x) (b : Nat) (hb : b < fw k) (nx : Bool) => HVar_in k b nx hk5 hb h)
          have SP := Lib.hid (fun (j b : Nat) (hb : b < fw k) (hj : j + (ff k + b) = 103) (hw : W k = true) => smP W hk5 hb hj hw)
          have SK := Lib.hid (fun (a : Nat → Bool) (hw : W k = false) => smR_skip W a (104 - fsum (k + 1)) (fw k) (fun x hx => by
            rw [show 103 - (104 - fsum (k + 1) + x) = ff k + (fw k - 1 - x) by omega, fieldOf_at hk5 (by omega)]; exact hw))
          have EJ : Hid (104 - fsum (k + 1) + fw k = 104 - fsum k) := Lib.hid (by omega)
          have EB : Hid (∀ i, i < fw k → (104 - fsum (k + 1) + i) + (ff k + (fw k - 1 - i)) = 103) := Lib.hid (fun i hi => by omega)
          have EC : Hid (∀ i, i ≤ fw k → 104 - fsum (k + 1) + i ≤ 104) := Lib.hid (fun i hi => by omega)
          generalize fw k = fk at *
          generalize 104 - fsum (k + 1) = j0 at *
          have HG := Lib.hid hg5
          have hlti : (k : Int) < 5 := by omega
          clear h hg5 e1 e2 hki hff
          go_wp2_with fail
          refine WI.out.mono ?_
          rintro e w' ⟨rfl, rfl⟩
          clear WI
          go_wp2_with fail
          go_loopg [8, 10] fk (fun gk s8 s10 wr => SmI wA p L c B W k fk j0 gk s8 s10 wr)
          case atStart => exact II.out
          case round =>
            clear II
            obtain ⟨i, f, M2, L2, hi, hi0, rfl, rfl, h⟩ := hrel
            have cw := HCL.out _ _ _ _ _ h k hk5
            cases hw : W k
            · obtain rfl : i = 0 := hi0 hw
              rw [hw] at cw
              have ON : Hid (SmO wA p L c B W k (.int .i64 f) (.int .i64 ((k : Int) - 1)) wr) := Lib.hid ⟨f, M2, L2, by omega, rfl, rfl, by
                have e := EJ.out
                rw [← e]
                exact (h.cong (G := fun a => smR W a (j0 + fk)) (fun a => (SK.out a hw).symm)).mono (by omega)⟩
              clear hi hi0 h hw
              go_wp2_with fail
              go_roundg k
              case measure => omega
              case rel => exact ON.out
            · rw [hw] at cw
              by_cases hgt : 0 < gk
              · obtain ⟨b, rfl⟩ : ∃ b, gk = b + 1 := ⟨gk - 1, by omega⟩
                have hbi : ((b + 1 : Nat) : Int) - 1 = (b : Int) := by omega
                rw [hbi]
                have hbl : b < fk := by omega
                have hb0 : (0 : Int) ≤ (b : Int) := by omega
                have ej := EB.out i (by omega)
                rw [show fk - 1 - i = b by omega] at ej
                have hic := EC.out i (by omega)
                have sp := SP.out (j0 + i) b hbl ej hw
                have hx := sp.x220
                have hy := sp.y220
                have SPH := Lib.hid sp
                have H1 := Lib.hid h
                have HI := Lib.hid hi
                have HW := Lib.hid hw
                have VA := Lib.hid (VI.out _ h.gl b hbl false)
                have VB := Lib.hid (fun (y : World) (hy : Gl y) => VI.out y hy b hbl true)
                generalize fvar k b false = x at *
                generalize fvar k b true = y at *
                generalize hjj : j0 + i = jj at *
                have JJ := Lib.hid hjj
                clear sp h hi hi0 hw ej hjj
                go_wp2_with fail
                refine VA.out.mono ?_
                rintro e w' ⟨rfl, rfl⟩
                clear VA
                go_wp2_with fail
                refine (VarQ H1.out.rep H1.out.qk hx (by omega)).mono ?_
                intro e w2 h2
                obtain ⟨rx, M3, L3, rfl, hx0, f2⟩ := H1.out.step h2
                have H2 := Lib.hid f2
                clear h2 f2 H1 cw
                go_wp2_with fail
                refine (VB.out _ H2.out.gl).mono ?_
                rintro e w' ⟨rfl, rfl⟩
                clear VB
                go_wp2_with fail
                refine (VarQ H2.out.rep H2.out.qk hy (by omega)).mono ?_
                intro e w3 h3
                obtain ⟨ry, M4, L4, rfl, hy0, f3⟩ := H2.out.step h3
                have H3 := Lib.hid f3
                clear h3 f3 H2
                go_wp2_with fail
                refine (XorQ H3.out.rep H3.out.qk (f := rx) (g := ry) (F := fun a => a x) (G := fun a => a y) (.tail _ (.head _)) (.head _) (s := 4) (t := 2) SPH.out.px (PSt.var 220 y hy) (by omega)).mono ?_
                intro e w4 h4
                obtain ⟨rz, M5, L5, rfl, hz0, f4⟩ := H3.out.step h4
                have H4 := Lib.hid f4
                clear h4 f4 H3
                go_wp2_with fail
                refine (NotQ H4.out.rep H4.out.qk (f := rz) (F := fun a => a x ^^ a y) (.head _) (s := 4) SPH.out.px (by omega)).mono ?_
                intro e w5 h5
                obtain ⟨rn, M6, L6, rfl, hn0, f5⟩ := H4.out.step h5
                have H5 := Lib.hid f5
                clear h5 f5 H4
                go_wp2_with fail
                refine (AndQ H5.out.rep H5.out.qk (f := rn) (g := f) (F := fun a => !(a x ^^ a y)) (G := fun a => smR W a jj) (.head _) (.tail _ (.tail _ (.tail _ (.tail _ (.head _))))) (s := 600) SPH.out.pn (by omega)).mono ?_
                intro e w6 h6
                obtain ⟨f2, M7, L7, rfl, hf0, f6⟩ := H5.out.step h6
                have JN : Hid (SmI wA p L c B W k fk j0 b (.int .i64 f2) (.int .i64 ((b : Int) - 1)) w6) := Lib.hid (by
                  refine ⟨i + 1, f2, M7, L7, by have := HI.out; omega, fun hw => (by rw [HW.out] at hw; cases hw), rfl, rfl, ?_⟩
                  rw [← Nat.add_assoc, JJ.out]
                  refine ((f6.cong SPH.out.st).mono (by omega)).sub (fun z hz => ?_)
                  rcases List.mem_cons.1 hz with rfl | hz
                  · exact .head _
                  · exact .tail _ (.tail _ (.tail _ (.tail _ (.tail _ (.tail _ hz))))))
                clear h6 f6 H5
                go_wp2_with fail
                go_roundg b
                case measure => omega
                case rel => exact JN.out
              · obtain rfl : gk = 0 := by omega
                have ON : Hid (SmO wA p L c B W k (.int .i64 f) (.int .i64 ((k : Int) - 1)) wr) := Lib.hid ⟨f, M2, L2, by omega, rfl, rfl, by
                  have e := EJ.out
                  obtain rfl : i = fk := by omega
                  rw [← e]
                  exact h⟩
                clear hi hi0 h hw hgt
                go_wp2_with fail
                go_roundg k
                case measure => omega
                case rel => exact ON.out
        · obtain rfl : gk = 0 := by omega
          have FIN : Hid (OpQ p 220 (c + 20000000) L w (fun a => smR W a 104) B (.returned (.int .i64 f)) wr) := Lib.hid (OpQ.before KA.out (h.ret (.head _) (fun x hx => .tail _ hx) (by show c + (104 - 0) * 150000 ≤ _; omega)))
          clear h hg5 hlt
          go_wp2_with fail
          go_ret
          exact FIN.out

end Go.Proofs.YtcebhlhpmdladaaGreatDoor
