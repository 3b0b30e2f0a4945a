/-
  Plain mathematics: the k-th assignment of a list of variables; counting and the least model over it.
-/
import Derived.Test.YtngbodmooddjbaaQu
import Derived.Test.YtngbodmooddjbaaCn
import Derived.Test.YtngbodmooddjbaaLe
namespace Go.Proofs.Ytngbodmooddjbaa
open Go.RowKit

/-- The k-th assignment: the last variable has the lowest bit. -/
def asK : List Nat → Nat → (Nat → Bool)
  | [], _ => fun _ => false
  | v :: vs, k => Mgr.upd (asK vs k) v (k.testBit vs.length)
/-- The number of the assignments before the K-th at which F is true. -/
def cntR (F : Bfn) (vs : List Nat) : Nat → Nat
  | 0 => 0
  | K + 1 => cntR F vs K + if F (asK vs K) then 1 else 0
/-- The m lowest bits, the highest one first. -/
def bitsL : Nat → Nat → List Bool
  | 0, _ => []
  | m + 1, k => k.testBit m :: bitsL m k
theorem bitsL_len : ∀ m k, (bitsL m k).length = m
  | 0, _ => rfl
  | m + 1, k => by simp [bitsL, bitsL_len m k]
theorem bitsL_at : ∀ m k j, j < m → (bitsL m k)[j]? = some (k.testBit (m - 1 - j))
  | 0, _, _, h => by omega
  | m + 1, k, 0, _ => by simp [bitsL]
  | m + 1, k, j + 1, h => by
    simp only [bitsL, List.getElem?_cons_succ]
    rw [bitsL_at m k j (by omega)]
    congr 2; omega
theorem asK_add : ∀ (vs : List Nat) (m k : Nat), vs.length ≤ m → asK vs (2 ^ m + k) = asK vs k
  | [], _, _, _ => rfl
  | v :: vs, m, k, h => by
    have h' : vs.length < m := h
    simp only [asK]
    rw [asK_add vs m k (by omega), Nat.testBit_two_pow_add_gt h']
theorem bitsL_add : ∀ (j m k : Nat), j ≤ m → bitsL j (2 ^ m + k) = bitsL j k
  | 0, _, _, _ => rfl
  | j + 1, m, k, h => by
    simp only [bitsL]
    rw [bitsL_add j m k (by omega), Nat.testBit_two_pow_add_gt (show j < m by omega)]
theorem asK_lo (v : Nat) (vs : List Nat) {k : Nat} (h : k < 2 ^ vs.length) : asK (v :: vs) k = Mgr.upd (asK vs k) v false := by
  simp only [asK]
  rw [Nat.testBit_lt_two_pow h]
theorem asK_hi (v : Nat) (vs : List Nat) {k : Nat} (h : k < 2 ^ vs.length) : asK (v :: vs) (2 ^ vs.length + k) = Mgr.upd (asK vs k) v true := by
  simp only [asK]
  rw [asK_add vs _ k (Nat.le_refl _), Nat.testBit_two_pow_add_eq, Nat.testBit_lt_two_pow h]
  rfl
theorem cntR_lo (v : Nat) (vs : List Nat) (F : Bfn) : ∀ K, K ≤ 2 ^ vs.length → cntR F (v :: vs) K = cntR (fun a => F (Mgr.upd a v false)) vs K
  | 0, _ => rfl
  | K + 1, h => by simp only [cntR]; rw [cntR_lo v vs F K (by omega), asK_lo v vs (by omega)]
theorem cntR_hi (v : Nat) (vs : List Nat) (F : Bfn) : ∀ K, K ≤ 2 ^ vs.length → cntR F (v :: vs) (2 ^ vs.length + K) = cntR (fun a => F (Mgr.upd a v false)) vs (2 ^ vs.length) + cntR (fun a => F (Mgr.upd a v true)) vs K
  | 0, _ => by rw [Nat.add_zero, cntR_lo v vs F _ (Nat.le_refl _)]; simp [cntR]
  | K + 1, h => by
    rw [show 2 ^ vs.length + (K + 1) = (2 ^ vs.length + K) + 1 by omega]
    simp only [cntR]
    rw [cntR_hi v vs F K (by omega), asK_hi v vs (by omega)]
    omega
theorem cntR_all : ∀ (vs : List Nat) (F : Bfn), cntR F vs (2 ^ vs.length) = cntL F vs
  | [], F => by
    exact Nat.zero_add _
  | v :: vs, F => by
    have h := cntR_hi v vs F (2 ^ vs.length) (Nat.le_refl _)
    rw [show 2 ^ (v :: vs).length = 2 ^ vs.length + 2 ^ vs.length by rw [List.length_cons, Nat.pow_succ]; omega, h, cntR_all vs, cntR_all vs]
    rfl
theorem asK_at : ∀ (vs : List Nat) (k : Nat), vs.Nodup → ∀ j, j < vs.length → asK vs k (vs.getD j 0) = k.testBit (vs.length - 1 - j)
  | [], _, _, _, h => by simp at h
  | v :: vs, k, nd, 0, _ => by simp [asK, Mgr.upd]
  | v :: vs, k, nd, j + 1, h => by
    rw [List.nodup_cons] at nd
    have hj : j < vs.length := by simpa using h
    have hne : vs.getD j 0 ≠ v := fun e => nd.1 (by rw [← e, List.getD_eq_getElem?_getD, List.getElem?_eq_getElem hj]; exact List.getElem_mem hj)
    have e1 : (v :: vs).getD (j + 1) 0 = vs.getD j 0 := by simp
    rw [e1]
    simp only [asK]
    rw [Mgr.upd_other _ _ _ _ hne, asK_at vs k nd.2 j hj]
    congr 1
    simp only [List.length_cons]
    omega
theorem asK_off : ∀ (vs : List Nat) (k : Nat) (u : Nat), u ∉ vs → asK vs k u = false
  | [], _, _, _ => rfl
  | v :: vs, k, u, h => by
    rw [List.mem_cons, not_or] at h
    simp only [asK]
    rw [Mgr.upd_other _ _ _ _ h.1, asK_off vs k u h.2]
theorem asK_surj : ∀ (vs : List Nat), vs.Nodup → ∀ a : Nat → Bool, ∃ k, k < 2 ^ vs.length ∧ ∀ u, u ∈ vs → asK vs k u = a u
  | [], _, _ => ⟨0, by simp, fun u hu => by cases hu⟩
  | v :: vs, nd, a => by
    rw [List.nodup_cons] at nd
    obtain ⟨k, hk, ha⟩ := asK_surj vs nd.2 a
    have key : ∀ x, a v = x → ∀ u, u ∈ v :: vs → Mgr.upd (asK vs k) v x u = a u := fun x hx u hu => by
      by_cases e : u = v
      · subst e; rw [Mgr.upd_same, hx]
      · rw [Mgr.upd_other _ _ _ _ e]
        rcases List.mem_cons.1 hu with h | h
        · exact (e h).elim
        · exact ha u h
    have hp : 2 ^ (v :: vs).length = 2 ^ vs.length + 2 ^ vs.length := by rw [List.length_cons, Nat.pow_succ]; omega
    cases hx : a v with
    | false => exact ⟨k, by omega, by rw [asK_lo v vs hk]; exact key _ hx⟩
    | true => exact ⟨2 ^ vs.length + k, by omega, by rw [asK_hi v vs hk]; exact key _ hx⟩

/-- F depends on the variables of vs alone. -/
def DepL (F : Bfn) (vs : List Nat) : Prop := ∀ a b : Nat → Bool, (∀ v, v ∈ vs → a v = b v) → F a = F b
theorem DepL.tail {F : Bfn} {v : Nat} {vs : List Nat} (h : DepL F (v :: vs)) (x : Bool) : DepL (fun a => F (Mgr.upd a v x)) vs := fun a b hab => h _ _ (fun u hu => by
  by_cases e : u = v
  · subst e; rw [Mgr.upd_same, Mgr.upd_same]
  · rw [Mgr.upd_other _ _ _ _ e, Mgr.upd_other _ _ _ _ e]
    rcases List.mem_cons.1 hu with h | h
    · exact (e h).elim
    · exact hab u h)
theorem DepL.no {F : Bfn} {vs : List Nat} (h : DepL F vs) (nd : vs.Nodup) (hn : ∀ k, k < 2 ^ vs.length → F (asK vs k) = false) : ∀ a, F a = false := fun a => by
  obtain ⟨k, hk, ha⟩ := asK_surj vs nd a
  rw [← hn k hk]
  exact h _ _ (fun v hv => (ha v hv).symm)
theorem DepL.of {n : Nat} {F : Bfn} {vs : List Nat} (hr : Rd 0 n F) (hi : ∀ v, v < n → v ∉ vs → ∀ a, F (Mgr.upd a v false) = F (Mgr.upd a v true)) : DepL F vs := fun a b hab => by
  have key : ∀ m, m ≤ n → F a = F (fun v => if v < m then b v else a v) := by
    intro m
    induction m with
    | zero => intro _; congr 1
    | succ m ih =>
      intro hm
      rw [ih (by omega)]
      have e : (fun v => if v < m + 1 then b v else a v) = Mgr.upd (fun v => if v < m then b v else a v) m (b m) := by
        funext v
        unfold Mgr.upd
        by_cases h : v = m
        · subst h; simp
        · rw [if_neg h]
          show _ = if v < m then b v else a v
          by_cases h2 : v < m
          · rw [if_pos h2, if_pos (by omega)]
          · rw [if_neg h2, if_neg (by omega)]
      rw [e]
      have e2 : (fun v => if v < m then b v else a v) = Mgr.upd (fun v => if v < m then b v else a v) m (a m) := by
        funext v
        unfold Mgr.upd
        by_cases h : v = m
        · subst h; simp
        · rw [if_neg h]
      by_cases hv : m ∈ vs
      · rw [← hab m hv, ← e2]
      · have h1 := hi m (by omega) hv (fun v => if v < m then b v else a v)
        conv => lhs; rw [e2]
        cases a m <;> cases b m <;> first | rfl | exact h1 | exact h1.symm
  rw [key n (Nat.le_refl _)]
  exact hr _ _ (fun v _ hv => by rw [if_pos hv])
theorem least_law : ∀ (vs : List Nat) {F : Bfn}, vs.Nodup → DepL F vs → ∀ k, k < 2 ^ vs.length → F (asK vs k) = true → (∀ j, j < k → F (asK vs j) = false) → bitsL vs.length k = lsV F vs
  | [], _, _, _, _, _, _, _ => rfl
  | v :: vs, F, nd, dep, k, hk, hy, hno => by
    rw [List.nodup_cons] at nd
    have hp : 2 ^ (v :: vs).length = 2 ^ vs.length + 2 ^ vs.length := by rw [List.length_cons, Nat.pow_succ]; omega
    simp only [List.length_cons, bitsL, lsV]
    by_cases hlt : k < 2 ^ vs.length
    · have h1 := asK_lo v vs hlt
      have hB : lsB F v = false := lsB_f (fun h => by rw [h1, h] at hy; cases hy)
      rw [hB, Nat.testBit_lt_two_pow hlt]
      congr 1
      exact least_law vs nd.2 (dep.tail false) k hlt (by rw [h1] at hy; exact hy) (fun j hj => by
        have := hno j hj
        rw [asK_lo v vs (by omega)] at this
        exact this)
    · obtain ⟨k', rfl⟩ : ∃ k', k = 2 ^ vs.length + k' := ⟨k - 2 ^ vs.length, by omega⟩
      have hk' : k' < 2 ^ vs.length := by omega
      have hz := (dep.tail false).no nd.2 (fun j hj => by
        have := hno j (by omega)
        rw [asK_lo v vs hj] at this
        exact this)
      have hB : lsB F v = true := lsB_t hz
      have h1 := asK_hi v vs hk'
      rw [hB, Nat.testBit_two_pow_add_eq, Nat.testBit_lt_two_pow hk', bitsL_add _ _ _ (Nat.le_refl _)]
      simp only [Bool.not_false]
      congr 1
      exact least_law vs nd.2 (dep.tail true) k' hk' (by rw [h1] at hy; exact hy) (fun j hj => by
        have := hno (2 ^ vs.length + j) (by omega)
        rw [asK_hi v vs (by omega)] at this
        exact this)
theorem nodup_le : ∀ (n : Nat) (vs : List Nat), vs.Nodup → (∀ v, v ∈ vs → v < n) → vs.length ≤ n
  | 0, vs, _, h => by
    cases vs with
    | nil => simp
    | cons v _ => exact absurd (h v List.mem_cons_self) (by omega)
  | n + 1, vs, nd, h => by
    have h2 := nodup_le n (vs.erase n) (nd.erase n) (fun v hv => by
      have h3 := h v (List.mem_of_mem_erase hv)
      have h4 : v ≠ n := fun e => by
        rw [e] at hv
        exact (nd.not_mem_erase) hv
      omega)
    have h5 := List.length_erase_le (a := n) (l := vs)
    have h6 : vs.length - 1 ≤ (vs.erase n).length := by
      by_cases hm : n ∈ vs
      · rw [List.length_erase_of_mem hm]; omega
      · rw [List.erase_of_not_mem hm]; omega
    omega

end Go.Proofs.Ytngbodmooddjbaa
