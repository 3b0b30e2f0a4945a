/-
 Plain mathematics: images and preimages under the relation of destinations: how many functions a product makes, and what is left.
-/
import Derived.Test.YtdgnbbmgcgfibaaGreatDoorWc
namespace Go.Proofs.YtdgnbbmgcgfibaaGreatDoor
open Go.RowKit

theorem dgB_ports (m n : Nat) (yo : Bool) : ∃ m3 m4, (m3 ≤ 16 ∧ ∀ b, b < 16 → (dgB m n yo (72 + b) = true ↔ b < m3)) ∧ (m4 ≤ 16 ∧ ∀ b, b < 16 → (dgB m n yo (88 + b) = true ↔ b < m4)) ∧ (m3 = 0 ∨ m3 = 16 ∨ m4 = 0) ∧ (decide (n ≤ 72) = true → m3 = 0 ∧ m4 = 0) := by
 have f3 : ∀ b, b < 16 → fieldOf (72 + b) = 3 := fun b hb => fieldOf_at (k := 3) (by omega) hb
 have f4 : ∀ b, b < 16 → fieldOf (88 + b) = 4 := fun b hb => fieldOf_at (k := 4) (by omega) hb
 refine ⟨if yo = true then 0 else min (n - 72) 16, min (n - 88) 16, ⟨by split <;> omega, fun b hb => ?_⟩, ⟨by omega, fun b hb => ?_⟩, ?_, fun h => ?_⟩
 ·unfold dgB
  rw [if_neg (by omega), f3 b hb]
  cases yo
  ·simp; omega
  ·simp
 ·unfold dgB
  rw [if_neg (by omega), f4 b hb]
  cases yo
  ·simp; omega
  ·simp; omega
 ·by_cases hy : yo = true
  ·rw [if_pos hy]; exact .inl rfl
  ·rw [if_neg hy]; omega
 ·have := of_decide_eq_true h
  refine ⟨by split <;> omega, by omega⟩
def TB (j n : Nat) : Nat := KR (decide (n ≤ 72)) (16 + j) * 2 ^ (16 + j)
theorem pow_fit {a b c k K K' : Nat} (hK : K ≤ K') (h : a + b + c ≤ k) : 2 ^ c * (K * 2 ^ a * 2 ^ b) ≤ K' * 2 ^ k := by
 have e : 2 ^ c * (K * 2 ^ a * 2 ^ b) = K * 2 ^ (a + b + c) := by
  rw [Nat.pow_add, Nat.pow_add]
  rw [Nat.mul_comm (2 ^ c), Nat.mul_assoc K, Nat.mul_assoc K]
 rw [e]
 exact Nat.mul_le_mul hK (Nat.pow_le_pow_right (by omega) h)
theorem mul_add_lt {a b x y : Nat} (hx : x < a) (hy : y < b) : x * b + y < a * b := by
 have : (x + 1) * b ≤ a * b := Nat.mul_le_mul_right _ hx
 rw [Nat.add_mul] at this
 omega
def SrcR (ac : ByteArray → List Ru) (ts : List Tr) (gs : List Ru) (P Q : Pkt) : Prop := gB gs P = true ∧ Q ∈ pkSrc ac ts P
section
variable {ac : ByteArray → List Ru} {ts : List Tr} {gs : List Ru}
theorem okZ_of (hok : ∀ t, t ∈ ts → t.ok) {m n : Nat} {α η : Nat → Bool} {P N : Pkt} (hPa : ∀ u, u < 104 → u < m → P.bit u = α u) (hNa : ∀ u, u < 104 → u < n → N.bit u = η u) (hR : N ∈ pkSrc ac ts P) : okZ ts m n α η := by
 have ne0 : ∀ u, 32 ≤ u → fieldOf u ≠ 0 := fun u hu q => by have := field0_iff.1 q; omega
 have rest : (∀ u, u < 104 → sRest u = true → P.bit u = N.bit u) → agS sRest m n α η := fun h u hu hs hm hn => by rw [← hPa u hu hm, ← hNa u hu hn]; exact h u hu hs
 have port : (∀ u, u < 104 → sPort u = true → P.bit u = N.bit u) → agS sPort m n α η := fun h u hu hs hm hn => by rw [← hPa u hu hm, ← hNa u hu hn]; exact h u hu hs
 have ofr : ∀ u, sRest u = true → 32 ≤ u ∧ fieldOf u ≠ 3 := fun u hs => by
  have hs : (!decide (u < 32) && !decide (fieldOf u = 3)) = true := hs
  simp only [Bool.and_eq_true, Bool.not_eq_true', decide_eq_false_iff_not] at hs
  exact ⟨by omega, hs.2⟩
 have src1 : ∀ s : Nat, N = { P with src := s } → okZ ts m n α η := fun s e => by
  subst e
  refine ⟨rest (fun u hu hs => bit_eq ?_), .inl (port (fun u hu hs => bit_eq ?_))⟩
  ·obtain ⟨h1, h2⟩ := ofr u hs
   rcases field_cases u with h | h | h | h | h
   ·exact absurd h (ne0 u h1)
   all_goals rw [h]; rfl
  ·rw [of_decide_eq_true hs]; rfl
 rcases src_cases ac ts hok P N hR with ⟨rfl, _⟩ | ⟨t, ht, _, hres, _⟩
 ·exact ⟨rest (fun _ _ _ => rfl), .inl (port (fun _ _ _ => rfl))⟩
 ·rcases hres with ⟨e, e2⟩ | ⟨e, j, hj, e2⟩ | ⟨e, e2⟩
  ·exact src1 _ e2
  ·exact src1 _ e2
  ·refine ⟨rest (fun u hu hs => ?_), .inr ⟨t, ht, e⟩⟩
   rw [e2]
   refine bit_eq ?_
   obtain ⟨h1, h2⟩ := ofr u hs
   rcases field_cases u with h | h | h | h | h
   ·exact absurd h (ne0 u h1)
   ·rw [h]; rfl
   ·rw [h]; rfl
   ·exact absurd h h2
   ·rw [h]; rfl
theorem img_core (hok : ∀ t, t ∈ ts → t.ok) (hac : ∀ t, t ∈ ts → (ac t.nm).length ≤ 4) (h4 : ts.length ≤ 4) : ∃ (fi : Nat → (Nat → Bool) → Nat) (q : Nat → Nat → (Nat → Bool) → (Nat → Bool) → Nat),
  (∀ n η, fi n η < 33) ∧ (∀ m n α η, q m n α η < TB gs.length n) ∧ ∀ m1 m2 n α1 α2 η1 η2, fi n η1 = fi n η2 → q m1 n α1 η1 = q m2 n α2 η2 → (okZ ts m1 n α1 η1 → okZ ts m2 n α2 η2) → ((m1 ≤ n ∧ m2 ≤ n) ∨ (m1 = n + 1 ∧ m2 = n + 1 ∧ α1 n = α2 n)) → min m1 32 = min m2 32 → (agS sSrc m1 n α1 η1 → agS sSrc m2 n α2 η2) →
   WitC (SrcR ac ts gs) m1 n α1 η1 m2 n α2 η2 := by
 classical
 have hsc : ∀ m n yo, ∃ st : (Nat → Bool) → Nat, (∀ σ, st σ < KR (decide (n ≤ 72)) (gs ++ (ts.map (Tr.ent ac)).flatMap Ent.rus).length * 2 ^ (gs ++ (ts.map (Tr.ent ac)).flatMap Ent.rus).length * 2 ^ ((ts.map (Tr.ent ac)).flatMap Ent.sca).length) ∧
   ∀ σ1 σ2, st σ1 = st σ2 → ∀ p1 p2 : Pkt, p1.ok → p2.ok → twoP (dgB m n yo) σ1 σ2 p1 p2 → Same ac ts gs p1 p2 := fun m n yo => by
  obtain ⟨m3, m4, d3, d4, h, hl⟩ := dgB_ports m n yo
  exact same_code hok (dgB m n yo) d3 d4 h _ hl
 have wl := w_le ac ts hok hac
 obtain ⟨J, hJ⟩ : ∃ J : Nat → Nat, J = fun n => KR (decide (n ≤ 72)) (gs ++ (ts.map (Tr.ent ac)).flatMap Ent.rus).length * 2 ^ (gs ++ (ts.map (Tr.ent ac)).flatMap Ent.rus).length * 2 ^ ((ts.map (Tr.ent ac)).flatMap Ent.sca).length := ⟨_, rfl⟩
 have hJn : ∀ n, 2 ^ (flL ts).length * J n ≤ TB gs.length n := fun n => by
  rw [hJ]
  refine pow_fit (KR_mono _ ?_) ?_
  ·rw [List.length_append]; omega
  ·rw [List.length_append]; omega
 obtain ⟨st, hst⟩ : ∃ st : Nat → Nat → Bool → (Nat → Bool) → Nat, ∀ m n yo, (∀ σ, st m n yo σ < J n) ∧ ∀ σ1 σ2, st m n yo σ1 = st m n yo σ2 → ∀ p1 p2 : Pkt, p1.ok → p2.ok → twoP (dgB m n yo) σ1 σ2 p1 p2 → Same ac ts gs p1 p2 :=
  ⟨fun m n yo => (hsc m n yo).choose, fun m n yo => by rw [hJ]; exact (hsc m n yo).choose_spec⟩
 clear hsc
 obtain ⟨fl, hfl⟩ : ∃ fl : Nat → Nat → (Nat → Bool) → (Nat → Bool) → Tr × Nat → Bool, fl = fun m n α η x => if x.2 = 0 then decide (fw1 m n α η) else if x.2 = 1 then decide (fw2 x.1 m α) else decide (fw3 x.1 n η) := ⟨_, rfl⟩
 refine ⟨fun n η => fstP (fun s η => spS n s η) (spA ts) η, fun m n α η => bmk (fl m n α η) (flL ts) * J n + (if ∃ s, s ∈ spA ts ∧ spS n s η then st (min m 32) n (decide (∃ t, t ∈ ts ∧ t.k = 3 ∧ fw3 t n η)) (sgm α η) else st n n false η), fun n η => ?_, fun m n α η => ?_, fun m1 m2 n α1 α2 η1 η2 e1 e2 h1 hz hm h0 => ?_⟩
 ·have a := fstP_le (fun s η => spS n s η) η (spA ts)
  have b := spA_len ts
  dsimp only
  omega
 ·refine Nat.lt_of_lt_of_le (mul_add_lt (bmk_lt _ _) ?_) (hJn n)
  split
  ·exact (hst _ _ _).1 _
  ·exact (hst _ _ _).1 _
 ·dsimp only at e1 e2
  have l1 : (if ∃ s, s ∈ spA ts ∧ spS n s η1 then st (min m1 32) n (decide (∃ t, t ∈ ts ∧ t.k = 3 ∧ fw3 t n η1)) (sgm α1 η1) else st n n false η1) < J n := by
   split
   ·exact (hst _ _ _).1 _
   ·exact (hst _ _ _).1 _
  have l2 : (if ∃ s, s ∈ spA ts ∧ spS n s η2 then st (min m2 32) n (decide (∃ t, t ∈ ts ∧ t.k = 3 ∧ fw3 t n η2)) (sgm α2 η2) else st n n false η2) < J n := by
   split
   ·exact (hst _ _ _).1 _
   ·exact (hst _ _ _).1 _
  obtain ⟨e3, e4⟩ := code2 l1 l2 e2
  clear l1 l2 e2
  have fe := bmk_same (flL ts) e3
  have g1 : ∀ t, t ∈ ts → t.k = 3 → (fw1 m1 n α1 η1 ↔ fw1 m2 n α2 η2) := fun t ht hk => by
   have := fe (t, 0) (mem_flL ht hk (by omega))
   rw [hfl] at this
   simpa [decide_eq_decide] using this
  have g2 : ∀ t, t ∈ ts → t.k = 3 → (fw2 t m1 α1 ↔ fw2 t m2 α2) := fun t ht hk => by
   have := fe (t, 1) (mem_flL ht hk (by omega))
   rw [hfl] at this
   simpa [decide_eq_decide] using this
  have g3 : ∀ t, t ∈ ts → t.k = 3 → (fw3 t n η1 ↔ fw3 t n η2) := fun t ht hk => by
   have := fe (t, 2) (mem_flL ht hk (by omega))
   rw [hfl] at this
   simpa [decide_eq_decide] using this
  have ey : (∃ t, t ∈ ts ∧ t.k = 3 ∧ fw3 t n η1) ↔ ∃ t, t ∈ ts ∧ t.k = 3 ∧ fw3 t n η2 :=
   ⟨fun ⟨t, a, b, c⟩ => ⟨t, a, b, (g3 t a b).1 c⟩, fun ⟨t, a, b, c⟩ => ⟨t, a, b, (g3 t a b).2 c⟩⟩
  have ey' : decide (∃ t, t ∈ ts ∧ t.k = 3 ∧ fw3 t n η2) = decide (∃ t, t ∈ ts ∧ t.k = 3 ∧ fw3 t n η1) := by rw [decide_eq_decide]; exact ey.symm
  rintro P1 N1 N2 hP hN1 hN2 a1 a2 a3 a4 ⟨hg, hR⟩
  have wit := @img_wit ac ts gs hok m1 m2 n α1 α2 η1 η2 (decide (∃ t, t ∈ ts ∧ t.k = 3 ∧ fw3 t n η1)) h1 hz hm h0 (fun t ht hk => (g1 t ht hk).1) (fun t ht hk => (g2 t ht hk).1) (fun t ht hk => (g3 t ht hk).1) (decide_eq_true_iff) ?_ P1 N1 N2 hP hN1 hN2 a1 a2 a3 (fun u hu hn => a4 u hu hn hn) hg hR
  ·obtain ⟨P2, w1, w2, w3, w4⟩ := wit
   exact ⟨P2, w1, w2, w3, w4⟩
  ·rcases fstP_eq _ _ e1 with ⟨s, hs, s1, s2⟩ | hno
   ·refine .inl ⟨⟨s, hs, s1, s2⟩, ?_⟩
    rw [if_pos ⟨s, hs, s1⟩, if_pos ⟨s, hs, s2⟩, ey', ← hm] at e4
    exact (hst _ _ _).2 _ _ e4
   ·refine .inr ⟨fun s hs => (hno s hs).1, ?_⟩
    rw [if_neg (fun ⟨s, hs, h⟩ => (hno s hs).1 h), if_neg (fun ⟨s, hs, h⟩ => (hno s hs).2 h)] at e4
    exact (hst _ _ _).2 _ _ e4
def NI (j : Nat) : Nat := 73 * (1 + 2310 * TB j 0) + 32 * (1 + 2310 * TB j 100)
theorem TB_lv (j n : Nat) : TB j n = if n ≤ 72 then TB j 0 else TB j 100 := by
 unfold TB
 by_cases h : n ≤ 72
 ·rw [if_pos h, decide_eq_true h, decide_eq_true (by omega : 0 ≤ 72)]
 ·rw [if_neg h, decide_eq_false h, decide_eq_false (by omega : ¬ 100 ≤ 72)]
theorem TB_le (j n : Nat) : TB j n ≤ TB j 100 := by
 unfold TB
 refine Nat.mul_le_mul_right _ ?_
 rw [decide_eq_false (by omega : ¬ 100 ≤ 72)]
 unfold KR
 split
 ·rw [if_neg (by decide)]; omega
 ·exact Nat.le_refl _
theorem lvB_TB (j n : Nat) : lvB (1 + 2310 * TB j 0) (1 + 2310 * TB j 100) n = 1 + 2310 * TB j n := by
 unfold lvB
 rw [TB_lv j n]
 split <;> rfl
theorem img_listed (hok : ∀ t, t ∈ ts → t.ok) (hac : ∀ t, t ∈ ts → (ac t.nm).length ≤ 4) (h4 : ts.length ≤ 4) {F : Bfn} (hF : ∀ w, F w = true ↔ SrcR ac ts gs (pkA false w) (pkA true w)) (M : Mgr) (hn : M.n = 220) (hp : M.Plain) : Listed (M.ProF (hvK false 104) F) (NI gs.length) := by
 classical
 obtain ⟨fi, q, hfi, hq, hw⟩ := img_core (gs := gs) hok hac h4
 have dzl : ∀ m n (α : Nat → Bool), (if m ≤ n then min m 32 else if α n = true then 34 else 33) < 35 := fun m n α => by split; omega; split <;> omega
 have agl : ∀ m n (α η : Nat → Bool), (if agS sSrc m n α η then 1 else 0) < 2 := fun m n α η => by split <;> omega
 obtain ⟨cd, hcd⟩ : ∃ cd : Nat → Nat → (Nat → Bool) → (Nat → Bool) → Nat, cd = fun m n α η => if okZ ts m n α η then 1 + (((fi n η * 35 + if m ≤ n then min m 32 else if α n = true then 34 else 33) * 2 + if agS sSrc m n α η then 1 else 0) * TB gs.length n + q m n α η) else 0 := ⟨_, rfl⟩
 have cdl : ∀ m n α η, cd m n α η < 1 + 2310 * TB gs.length n := fun m n α η => by
  rw [hcd]
  dsimp only
  split
  ·have l1 := mul_add_lt (mul_add_lt (mul_add_lt (hfi n η) (dzl m n α)) (agl m n α η)) (hq m n α η)
   omega
  ·omega
 refine Listed.wit hn hp false (SrcR ac ts gs) hF (fun m n α η => lvC (1 + 2310 * TB gs.length 0) (1 + 2310 * TB gs.length 100) n (cd m n α η)) (fun m n α η hm hn => lvC_lt hn (by rw [lvB_TB]; exact cdl m n α η)) (fun m1 n1 α1 η1 m2 n2 α2 η2 hm1 hn1 _ hm2 hn2 _ e => ?_)
 obtain ⟨rfl, e⟩ := lvC_eq (by rw [lvB_TB]; exact cdl _ _ _ _) (by rw [lvB_TB]; exact cdl _ _ _ _) e
 refine ⟨rfl, ?_⟩
 rw [hcd] at e
 dsimp only at e
 by_cases o1 : okZ ts m1 n1 α1 η1
 case neg =>
  rintro P1 N1 N2 hP hN1 hN2 a1 a2 a3 a4 ⟨hg, hR⟩
  exact absurd (okZ_of hok a1 a2 hR) o1
 by_cases o2 : okZ ts m2 n1 α2 η2
 case neg => rw [if_pos o1, if_neg o2] at e; omega
 rw [if_pos o1, if_pos o2] at e
 obtain ⟨e1, eq⟩ := code2 (hq _ _ _ _) (hq _ _ _ _) (Nat.add_left_cancel e)
 obtain ⟨e2, ea⟩ := code2 (agl _ _ _ _) (agl _ _ _ _) e1
 obtain ⟨ef, ez⟩ := code2 (dzl _ _ _) (dzl _ _ _) e2
 have hz : ((m1 ≤ n1 ∧ m2 ≤ n1) ∨ (m1 = n1 + 1 ∧ m2 = n1 + 1 ∧ α1 n1 = α2 n1)) ∧ min m1 32 = min m2 32 := by
  by_cases h1 : m1 ≤ n1
  ·rw [if_pos h1] at ez
   by_cases h2 : m2 ≤ n1
   ·rw [if_pos h2] at ez
    exact ⟨.inl ⟨h1, h2⟩, ez⟩
   ·rw [if_neg h2] at ez
    split at ez <;> omega
  ·rw [if_neg h1] at ez
   by_cases h2 : m2 ≤ n1
   ·rw [if_pos h2] at ez
    split at ez <;> omega
   ·rw [if_neg h2] at ez
    refine ⟨.inr ⟨by omega, by omega, ?_⟩, by rw [show m1 = m2 by omega]⟩
    cases h : α1 n1 <;> cases h' : α2 n1 <;> simp [h, h'] at ez ⊢
 refine hw m1 m2 n1 α1 α2 η1 η2 ef eq (fun _ => o2) hz.1 hz.2 (fun h => ?_)
 rw [if_pos h] at ea
 by_cases h2 : agS sSrc m2 n1 α2 η2
 ·exact h2
 ·rw [if_neg h2] at ea; omega
theorem img_st (hok : ∀ t, t ∈ ts → t.ok) (hac : ∀ t, t ∈ ts → (ac t.nm).length ≤ 4) (h4 : ts.length ≤ 4) {F : Bfn} (hF : ∀ w, F w = true ↔ SrcR ac ts gs (pkA false w) (pkA true w)) : PSt 220 (exQ (hvK false 104) F) (33 * TB gs.length 100) := by
 obtain ⟨fi, q, hfi, hq, hw⟩ := img_core (gs := gs) hok hac h4
 refine PSt.wit false (SrcR ac ts gs) hF (fun n η => fi n η * TB gs.length n + q 0 n (fun _ => false) η) (fun n η _ => Nat.lt_of_lt_of_le (mul_add_lt (hfi n η) (hq _ _ _ _)) (Nat.mul_le_mul_left _ (TB_le _ _))) (fun n η1 η2 hn e => ?_)
 obtain ⟨e1, e2⟩ := code2 (hq _ _ _ _) (hq _ _ _ _) e
 have no : ∀ S η, agS S 0 n (fun _ => false) η := fun S η u _ _ h => absurd h (Nat.not_lt_zero _)
 exact hw 0 0 n _ _ η1 η2 e1 e2 (fun _ => ⟨no _ _, .inl (no _ _)⟩) (.inl ⟨Nat.zero_le _, Nat.zero_le _⟩) rfl (fun _ => no _ _)
end
end Go.Proofs.YtdgnbbmgcgfibaaGreatDoor

namespace Go.Proofs.YtdgnbbmgcgfibaaGreatDoor
open Go.RowKit

/-! ### rules that ask nothing of the source -/
def frS (x : Ru) : Ru := { x with sa := 0, sm := 4294967295 }
def frP (x : Ru) : Ru := { frS x with sl := 0, sh := 65535 }
theorem wm_any (z : Nat) : wmB 0 4294967295 z = true := wmB_iff.2 (fun i hi hm => by
 have : (4294967295 : Nat).testBit i = true := by
  rw [show (4294967295 : Nat) = 2 ^ 32 - 1 by decide, Nat.testBit_two_pow_sub_one]
  exact decide_eq_true hi
 rw [this] at hm; cases hm)
theorem ru_src (x : Ru) (p : Pkt) (s : Nat) : ruB x { p with src := s } = (wmB x.sa x.sm s && ruB (frS x) p) := by
 unfold ruB frS
 dsimp only
 rw [wm_any]
 cases (decide (x.pr = -1) || decide (x.pr = p.proto)) <;> cases wmB x.sa x.sm s <;> simp
theorem ru_srp (x : Ru) {p : Pkt} (hp : p.ok) (s : Nat) (o : Int) : ruB x { p with src := s, sport := o } = (wmB x.sa x.sm s && inB x.sl x.sh o && ruB (frP x) p) := by
 have e : inB 0 65535 p.sport = true := by
  unfold inB
  exact decide_eq_true hp.h3
 unfold ruB frP frS
 dsimp only
 rw [wm_any, e]
 cases (decide (x.pr = -1) || decide (x.pr = p.proto)) <;> cases wmB x.sa x.sm s <;> cases inB x.sl x.sh o <;> cases wmB x.da x.dm p.dst <;> simp
def PreR (ac : ByteArray → List Ru) (ts : List Tr) (gs : List Ru) (N P : Pkt) : Prop := gB gs N = true ∧ N ∈ pkSrc ac ts P
def adr (t : Tr) (s : Nat) : Prop := (t.k = 1 ∧ s = t.o) ∨ (t.k = 2 ∧ ∃ j, j < t.hi - t.lo + 1 ∧ s = t.lo + j) ∨ (t.k = 3 ∧ s = t.o)
def eF (m : Nat) (α : Nat → Bool) (t : Tr) (x : Ru) : Prop := ∃ s, adr t s ∧ (∀ u, u < 32 → u < m → (srP s).bit u = α u) ∧ wmB x.sa x.sm s = true ∧ (t.k = 3 → (∀ u, u < 104 → fieldOf u = 3 → u < m → (opP t).bit u = α u) ∧ inB x.sl x.sh t.op = true)
section
variable {ac : ByteArray → List Ru} {ts : List Tr} {gs : List Ru}
theorem pre_wit (hok : ∀ t, t ∈ ts → t.ok) {m1 m2 n : Nat} {α1 α2 η1 η2 : Nat → Bool} (hm1 : m1 ≤ n) (hm2 : m2 ≤ n)
  (ha : (∀ u, u < 104 → u < m1 → α1 u = η1 u) → ∀ u, u < 104 → u < m2 → α2 u = η2 u) (hr : (∀ u, u < 104 → 32 ≤ u → u < m1 → α1 u = η1 u) → ∀ u, u < 104 → 32 ≤ u → u < m2 → α2 u = η2 u)
  (hs : agS sRest m1 n α1 η1 → agS sRest m2 n α2 η2) (hE : ∀ t, t ∈ ts → ∀ x, x ∈ gs → eF m1 α1 t x → eF m2 α2 t x)
  (hJ : ∀ p1 p2 : Pkt, p1.ok → p2.ok → twoP (dgB n n false) η1 η2 p1 p2 → Same ac ts (gs ++ gs.map frS ++ gs.map frP) p1 p2) : WitC (PreR ac ts gs) m1 n α1 η1 m2 n α2 η2 := by
 rintro N1 P1 P2 hN hP1 hP2 a1 a2 a3 a4 ⟨hg, hR⟩
 have sm : Same ac ts (gs ++ gs.map frS ++ gs.map frP) P1 P2 := hJ P1 P2 hP1 hP2 (fun u hu => by
  by_cases hn : u < n
  ·rw [if_pos (by unfold dgB; split <;> simp [hn])]
   exact ⟨a2 u hu hn, a3 u hu hn⟩
  ·rw [if_neg (by unfold dgB; split <;> simp [hn])]
   exact a4 u hu (by omega) (by omega))
 have gm : ∀ x, x ∈ gs → ruB x P1 = ruB x P2 ∧ ruB (frS x) P1 = ruB (frS x) P2 ∧ ruB (frP x) P1 = ruB (frP x) P2 := fun x hx =>
  ⟨sm.g x (List.mem_append.2 (.inl (List.mem_append.2 (.inl hx)))), sm.g _ (List.mem_append.2 (.inl (List.mem_append.2 (.inr (List.mem_map.2 ⟨x, hx, rfl⟩))))), sm.g _ (List.mem_append.2 (.inr (List.mem_map.2 ⟨x, hx, rfl⟩)))⟩
 have ne0 : ∀ u, 32 ≤ u → fieldOf u ≠ 0 := fun u hu q => by have := field0_iff.1 q; omega
 unfold gB at hg
 rw [List.any_eq_true] at hg
 obtain ⟨x, hx, hg⟩ := hg
 obtain ⟨g1, g2, g3⟩ := gm x hx
 have inG : ∀ p : Pkt, ruB x p = true → gB gs p = true := fun p h => List.any_eq_true.2 ⟨x, hx, h⟩
 rcases src_cases ac ts hok P1 N1 hR with ⟨rfl, idn⟩ | ⟨t, ht, _, hres, hto⟩
 ·refine ⟨P2, hP2, fun u hu hm => ?_, inG _ (by rw [← g1]; exact hg), idn P2 sm.s⟩
  rw [a3 u hu (by omega)]
  exact (ha (fun v hv hm' => by rw [← a1 v hv hm', a2 v hv (by omega)]) u hu hm).symm
 ·have toks := hok t ht
  -- a change of the source alone
  have one : ∀ s : Nat, t.k ≠ 3 → adr t s → N1 = { P1 with src := s } → (∀ p' s', adr t s' → resB t p' { p' with src := s' }) → (∀ s', adr t s' → s' < 4294967296) → ∃ N2 : Pkt, N2.ok ∧ (∀ u, u < 104 → u < m2 → N2.bit u = α2 u) ∧ PreR ac ts gs N2 P2 := fun s hk hd e hrs hlt => by
   have far : ∀ (p : Pkt) (s : Nat) u, 32 ≤ u → ({ p with src := s } : Pkt).bit u = p.bit u := fun p s u h32 => bit_eq (by
    rcases field_cases u with h | h | h | h | h
    ·exact absurd h (ne0 u h32)
    all_goals rw [h]; rfl)
   have near : ∀ (p : Pkt) (s : Nat) u, u < 32 → ({ p with src := s } : Pkt).bit u = (srP s).bit u := fun p s u h32 => bit_eq (by rw [field0_iff.2 h32]; rfl)
   rw [e, ru_src, Bool.and_eq_true] at hg
   obtain ⟨s2, d2, b2, w2, _⟩ := hE t ht x hx ⟨s, hd, fun u h32 hm => by rw [← near P1 s u h32, ← e, a1 u (by omega) hm], hg.1, fun h => absurd h hk⟩
   refine ⟨{ P2 with src := s2 }, ⟨hlt s2 d2, hP2.h1, hP2.h2, hP2.h3, hP2.h4⟩, fun u hu hm => ?_, inG _ (by rw [ru_src, w2, ← g2, hg.2]; rfl), hto P2 _ sm.s (hrs P2 s2 d2)⟩
   by_cases h32 : u < 32
   ·rw [near _ _ u h32, b2 u h32 hm]
   ·rw [far _ _ u (by omega), a3 u hu (by omega)]
    refine (hr (fun v hv h32' hm' => ?_) u hu (by omega) hm).symm
    rw [← a1 v hv hm', e, far _ _ v h32', a2 v hv (by omega)]
  rcases hres with ⟨e, e2⟩ | ⟨e, j, hj, e2⟩ | ⟨e, e2⟩
  ·refine one t.o (by omega) (.inl ⟨e, rfl⟩) e2 (fun p' s' hs' => ?_) (fun s' hs' => ?_)
   ·rcases hs' with ⟨_, rfl⟩ | ⟨q, _⟩ | ⟨q, _⟩
    ·exact .inl ⟨e, rfl⟩
    ·omega
    ·omega
   ·rcases hs' with ⟨_, rfl⟩ | ⟨q, _⟩ | ⟨q, _⟩
    ·exact toks.o
    ·omega
    ·omega
  ·refine one (t.lo + j) (by omega) (.inr (.inl ⟨e, j, hj, rfl⟩)) e2 (fun p' s' hs' => ?_) (fun s' hs' => ?_)
   ·rcases hs' with ⟨q, _⟩ | ⟨_, j', hj', rfl⟩ | ⟨q, _⟩
    ·omega
    ·exact .inr (.inl ⟨e, j', hj', rfl⟩)
    ·omega
   ·have := toks.hi
    rcases hs' with ⟨q, _⟩ | ⟨_, j', hj', rfl⟩ | ⟨q, _⟩
    ·omega
    ·rcases toks.kinds with e' | ⟨_, q1, q2⟩ | ⟨e', _⟩ <;> omega
    ·omega
  ·have ho3 : 0 ≤ t.op ∧ t.op ≤ 65535 := by
    rcases toks.kinds with e' | ⟨e', _⟩ | ⟨_, _, _, h⟩
    ·omega
    ·omega
    ·exact h
   have far : ∀ (p : Pkt) u, 32 ≤ u → fieldOf u ≠ 3 → ({ p with src := t.o, sport := t.op } : Pkt).bit u = p.bit u := fun p u h32 h3 => bit_eq (by
    rcases field_cases u with h | h | h | h | h
    ·exact absurd h (ne0 u h32)
    ·rw [h]; rfl
    ·rw [h]; rfl
    ·exact absurd h h3
    ·rw [h]; rfl)
   have near : ∀ (p : Pkt) u, u < 32 → ({ p with src := t.o, sport := t.op } : Pkt).bit u = (srP t.o).bit u := fun p u h32 => bit_eq (by rw [field0_iff.2 h32]; rfl)
   have port : ∀ (p : Pkt) u, fieldOf u = 3 → ({ p with src := t.o, sport := t.op } : Pkt).bit u = (opP t).bit u := fun p u h3 => bit_eq (by rw [h3]; rfl)
   rw [e2, ru_srp x hP1, Bool.and_eq_true, Bool.and_eq_true] at hg
   obtain ⟨s2, d2, b2, w2, f2⟩ := hE t ht x hx ⟨t.o, .inr (.inr ⟨e, rfl⟩), fun u h32 hm => by rw [← near P1 u h32, ← e2, a1 u (by omega) hm], hg.1.1, fun _ => ⟨fun u hu h3 hm => by rw [← port P1 u h3, ← e2, a1 u hu hm], hg.1.2⟩⟩
   obtain ⟨f2, i2⟩ := f2 e
   have es : s2 = t.o := by
    rcases d2 with ⟨_, q⟩ | ⟨q, _⟩ | ⟨_, q⟩
    ·exact q
    ·omega
    ·exact q
   subst es
   refine ⟨{ P2 with src := t.o, sport := t.op }, ⟨toks.o, hP2.h1, hP2.h2, ho3, hP2.h4⟩, fun u hu hm => ?_, inG _ (by rw [ru_srp x hP2, w2, i2, ← g3, hg.2]; rfl), hto P2 _ sm.s (.inr (.inr ⟨e, rfl⟩))⟩
   by_cases h32 : u < 32
   ·rw [near _ u h32, b2 u h32 hm]
   ·by_cases h3 : fieldOf u = 3
    ·rw [port _ u h3, f2 u hu h3 hm]
    ·rw [far _ u (by omega) h3, a3 u hu (by omega)]
     refine (hs (fun v hv hsv hm' _ => ?_) u hu (by unfold sRest; simp [h3]; omega) hm (by omega)).symm
     have hsv : (!decide (v < 32) && !decide (fieldOf v = 3)) = true := hsv
     simp only [Bool.and_eq_true, Bool.not_eq_true', decide_eq_false_iff_not] at hsv
     rw [← a1 v hv hm', e2, far _ v (by omega) hsv.2, a2 v hv (by omega)]
def QB (j n : Nat) : Nat := KR (decide (n ≤ 72)) (16 + 3 * j) * 2 ^ (16 + 3 * j)
theorem QB_lv (j n : Nat) : QB j n = if n ≤ 72 then QB j 0 else QB j 100 := by
 unfold QB
 by_cases h : n ≤ 72
 ·rw [if_pos h, decide_eq_true h, decide_eq_true (by omega : 0 ≤ 72)]
 ·rw [if_neg h, decide_eq_false h, decide_eq_false (by omega : ¬ 100 ≤ 72)]
theorem QB_le (j n : Nat) : QB j n ≤ QB j 100 := by
 unfold QB
 refine Nat.mul_le_mul_right _ ?_
 rw [decide_eq_false (by omega : ¬ 100 ≤ 72)]
 unfold KR
 split
 ·rw [if_neg (by decide)]; omega
 ·exact Nat.le_refl _
theorem pre_core (hok : ∀ t, t ∈ ts → t.ok) (hac : ∀ t, t ∈ ts → (ac t.nm).length ≤ 4) (h4 : ts.length ≤ 4) : ∃ q : Nat → (Nat → Bool) → Nat, (∀ n η, q n η < QB gs.length n) ∧ ∀ n η1 η2, q n η1 = q n η2 → ∀ p1 p2 : Pkt, p1.ok → p2.ok → twoP (dgB n n false) η1 η2 p1 p2 → Same ac ts (gs ++ gs.map frS ++ gs.map frP) p1 p2 := by
 have hsc : ∀ n, ∃ st : (Nat → Bool) → Nat, (∀ σ, st σ < QB gs.length n) ∧ ∀ σ1 σ2, st σ1 = st σ2 → ∀ p1 p2 : Pkt, p1.ok → p2.ok → twoP (dgB n n false) σ1 σ2 p1 p2 → Same ac ts (gs ++ gs.map frS ++ gs.map frP) p1 p2 := fun n => by
  obtain ⟨m3, m4, d3, d4, h, hl⟩ := dgB_ports n n false
  obtain ⟨st, s1, s2⟩ := same_code (gs := gs ++ gs.map frS ++ gs.map frP) (ac := ac) hok (dgB n n false) d3 d4 h _ hl
  refine ⟨st, fun σ => Nat.lt_of_lt_of_le (s1 σ) ?_, s2⟩
  have wl := w_le ac ts hok hac
  have := pow_fit (a := (gs ++ gs.map frS ++ gs.map frP ++ (ts.map (Tr.ent ac)).flatMap Ent.rus).length) (b := ((ts.map (Tr.ent ac)).flatMap Ent.sca).length) (c := 0) (k := 16 + 3 * gs.length) (KR_mono (decide (n ≤ 72)) (n := (gs ++ gs.map frS ++ gs.map frP ++ (ts.map (Tr.ent ac)).flatMap Ent.rus).length) (m := 16 + 3 * gs.length) (by simp only [List.length_append, List.length_map]; omega)) (by simp only [List.length_append, List.length_map]; omega)
  rw [Nat.pow_zero, Nat.one_mul] at this
  exact this
 exact ⟨fun n => (hsc n).choose, fun n => (hsc n).choose_spec.1, fun n => (hsc n).choose_spec.2⟩
def NP (j : Nat) : Nat := 73 * (8 * 2 ^ (4 * j) * QB j 0) + 32 * (8 * 2 ^ (4 * j) * QB j 100)
theorem prodL {A B : Type} (l : List A) (k : List B) : (l.flatMap fun t => k.map fun x => (t, x)).length = l.length * k.length := by
 induction l with
 | nil => simp
 | cons t l ih => simp only [List.flatMap_cons, List.length_append, List.length_map, List.length_cons, ih, Nat.add_mul]; omega
theorem pre_listed (hok : ∀ t, t ∈ ts → t.ok) (hac : ∀ t, t ∈ ts → (ac t.nm).length ≤ 4) (h4 : ts.length ≤ 4) {F : Bfn} (hF : ∀ w, F w = true ↔ PreR ac ts gs (pkA true w) (pkA false w)) (M : Mgr) (hn : M.n = 220) (hp : M.Plain) : Listed (M.ProF (hvK true 104) F) (NP gs.length) := by
 classical
 obtain ⟨q, hq, hw⟩ := pre_core (gs := gs) hok hac h4
 obtain ⟨fl, hfl⟩ : ∃ fl : Nat → (Nat → Bool) → Tr × Ru → Bool, fl = fun m α x => decide (eF m α x.1 x.2) := ⟨_, rfl⟩
 obtain ⟨L, hL⟩ : ∃ L, L = ts.flatMap fun t => gs.map fun x => (t, x) := ⟨_, rfl⟩
 have hLl : 2 ^ L.length ≤ 2 ^ (4 * gs.length) := by
  rw [hL, prodL]
  exact Nat.pow_le_pow_right (by omega) (Nat.mul_le_mul_right _ h4)
 obtain ⟨b1, hb1⟩ : ∃ b1 : Nat → Nat → (Nat → Bool) → (Nat → Bool) → Nat, b1 = fun m _ α η => if ∀ u, u < 104 → u < m → α u = η u then 1 else 0 := ⟨_, rfl⟩
 obtain ⟨b2, hb2⟩ : ∃ b2 : Nat → Nat → (Nat → Bool) → (Nat → Bool) → Nat, b2 = fun m _ α η => if ∀ u, u < 104 → 32 ≤ u → u < m → α u = η u then 1 else 0 := ⟨_, rfl⟩
 obtain ⟨b3, hb3⟩ : ∃ b3 : Nat → Nat → (Nat → Bool) → (Nat → Bool) → Nat, b3 = fun m n α η => if agS sRest m n α η then 1 else 0 := ⟨_, rfl⟩
 have l1 : ∀ m n α η, b1 m n α η < 2 := fun m n α η => by rw [hb1]; dsimp only; split <;> omega
 have l2 : ∀ m n α η, b2 m n α η < 2 := fun m n α η => by rw [hb2]; dsimp only; split <;> omega
 have l3 : ∀ m n α η, b3 m n α η < 2 := fun m n α η => by rw [hb3]; dsimp only; split <;> omega
 have lf : ∀ m α, bmk (fl m α) L < 2 ^ (4 * gs.length) := fun m α => Nat.lt_of_lt_of_le (bmk_lt _ _) hLl
 obtain ⟨cd, hcd⟩ : ∃ cd : Nat → Nat → (Nat → Bool) → (Nat → Bool) → Nat, cd = fun m n α η => (((b1 m n α η * 2 + b2 m n α η) * 2 + b3 m n α η) * 2 ^ (4 * gs.length) + bmk (fl m α) L) * QB gs.length n + q n η := ⟨_, rfl⟩
 have cdl : ∀ m n α η, cd m n α η < 8 * 2 ^ (4 * gs.length) * QB gs.length n := fun m n α η => by
  rw [hcd]
  exact mul_add_lt (mul_add_lt (mul_add_lt (mul_add_lt (l1 _ _ _ _) (l2 _ _ _ _)) (l3 _ _ _ _)) (lf _ _)) (hq _ _)
 have lv : ∀ n, lvB (8 * 2 ^ (4 * gs.length) * QB gs.length 0) (8 * 2 ^ (4 * gs.length) * QB gs.length 100) n = 8 * 2 ^ (4 * gs.length) * QB gs.length n := fun n => by
  unfold lvB
  rw [QB_lv gs.length n]
  split <;> rfl
 refine Listed.wit hn hp true (PreR ac ts gs) hF (fun m n α η => lvC (8 * 2 ^ (4 * gs.length) * QB gs.length 0) (8 * 2 ^ (4 * gs.length) * QB gs.length 100) n (cd m n α η)) (fun m n α η hm hn => lvC_lt hn (by rw [lv]; exact cdl m n α η)) (fun m1 n1 α1 η1 m2 n2 α2 η2 _ hn1 hm1 _ hn2 hm2 e => ?_)
 obtain ⟨rfl, e⟩ := lvC_eq (by rw [lv]; exact cdl _ _ _ _) (by rw [lv]; exact cdl _ _ _ _) e
 refine ⟨rfl, ?_⟩
 rw [hcd] at e
 dsimp only at e
 obtain ⟨e, eq⟩ := code2 (hq _ _) (hq _ _) e
 obtain ⟨e, ef⟩ := code2 (lf _ _) (lf _ _) e
 obtain ⟨e, e3⟩ := code2 (l3 _ _ _ _) (l3 _ _ _ _) e
 obtain ⟨e1, e2⟩ := code2 (l2 _ _ _ _) (l2 _ _ _ _) e
 have fe := bmk_same L ef
 rw [hb1] at e1
 rw [hb2] at e2
 rw [hb3] at e3
 refine pre_wit hok (hm1 rfl) (hm2 rfl) (fun h => ?_) (fun h => ?_) (fun h => ?_) (fun t ht x hx h => ?_) (hw n1 η1 η2 eq)
 ·dsimp only at e1
  rw [if_pos h] at e1
  by_cases h' : ∀ u, u < 104 → u < m2 → α2 u = η2 u
  ·exact h'
  ·rw [if_neg h'] at e1; omega
 ·dsimp only at e2
  rw [if_pos h] at e2
  by_cases h' : ∀ u, u < 104 → 32 ≤ u → u < m2 → α2 u = η2 u
  ·exact h'
  ·rw [if_neg h'] at e2; omega
 ·dsimp only at e3
  rw [if_pos h] at e3
  by_cases h' : agS sRest m2 n1 α2 η2
  ·exact h'
  ·rw [if_neg h'] at e3; omega
 ·have := fe (t, x) (by rw [hL]; exact List.mem_flatMap.2 ⟨t, ht, List.mem_map.2 ⟨x, hx, rfl⟩⟩)
  rw [hfl] at this
  dsimp only at this
  rw [decide_eq_true h] at this
  exact of_decide_eq_true this.symm
theorem pre_st (hok : ∀ t, t ∈ ts → t.ok) (hac : ∀ t, t ∈ ts → (ac t.nm).length ≤ 4) (h4 : ts.length ≤ 4) {F : Bfn} (hF : ∀ w, F w = true ↔ PreR ac ts gs (pkA true w) (pkA false w)) : PSt 220 (exQ (hvK true 104) F) (QB gs.length 100) := by
 obtain ⟨q, hq, hw⟩ := pre_core (gs := gs) hok hac h4
 exact PSt.wit true (PreR ac ts gs) hF (fun n η => q n η) (fun n η _ => Nat.lt_of_lt_of_le (hq _ _) (QB_le _ _)) (fun n η1 η2 hn e => pre_wit hok (Nat.zero_le _) (Nat.zero_le _) (fun _ u _ h => absurd h (Nat.not_lt_zero _)) (fun _ u _ _ h => absurd h (Nat.not_lt_zero _)) (fun _ u _ _ h => absurd h (Nat.not_lt_zero _)) (fun t ht x hx h => h) (hw n η1 η2 e))
end
end Go.Proofs.YtdgnbbmgcgfibaaGreatDoor

namespace Go.Proofs.YtdgnbbmgcgfibaaGreatDoor
open Go.RowKit

/-! ### destinations -/
def dapB (t : Tr) (p : Pkt) : Bool := decide (t.k = 1 ∧ t.o = p.dst) || decide (t.k = 3 ∧ t.o = p.dst ∧ t.pr = p.proto ∧ t.op = p.dport)
def dchB (t : Tr) (p : Pkt) : Pkt := if t.k = 3 then { p with dst := t.i, dport := t.ip } else { p with dst := t.i }
theorem dst_step (t : Tr) (l : List Tr) (p : Pkt) : pkDst (t :: l) p = if dapB t p = true then dchB t p else pkDst l p := by
 have e0 : pkDst (t :: l) p = if t.k = 1 ∧ t.o = p.dst then { p with dst := t.i } else if t.k = 3 ∧ t.o = p.dst ∧ t.pr = p.proto ∧ t.op = p.dport then { p with dst := t.i, dport := t.ip } else pkDst l p := rfl
 rw [e0]
 generalize pkDst l p = rest
 unfold dapB dchB
 by_cases h1 : t.k = 1 ∧ t.o = p.dst
 ·rw [if_pos h1, if_pos (by simp [h1]), if_neg (by omega)]
 ·rw [if_neg h1]
  by_cases h2 : t.k = 3 ∧ t.o = p.dst ∧ t.pr = p.proto ∧ t.op = p.dport
  ·rw [if_pos h2, if_pos (by rw [decide_eq_true h2, Bool.or_true]), if_pos h2.1]
  ·rw [if_neg h2, if_neg (by rw [decide_eq_false h1, decide_eq_false h2]; decide)]
theorem dst_cases : ∀ (ts : List Tr) (p : Pkt), (pkDst ts p = p ∧ ∀ p' : Pkt, (∀ t, t ∈ ts → dapB t p = dapB t p') → pkDst ts p' = p') ∨
  ∃ t, t ∈ ts ∧ dapB t p = true ∧ pkDst ts p = dchB t p ∧ ∀ p' : Pkt, (∀ t, t ∈ ts → dapB t p = dapB t p') → pkDst ts p' = dchB t p'
 | [], _ => .inl ⟨rfl, fun _ _ => rfl⟩
 | t :: l, p => by
  by_cases h : dapB t p = true
  ·refine .inr ⟨t, List.mem_cons_self .., h, by rw [dst_step, if_pos h], fun p' hs => ?_⟩
   rw [dst_step, if_pos (by rw [← hs t (List.mem_cons_self ..)]; exact h)]
  ·have key : ∀ p' : Pkt, (∀ s, s ∈ t :: l → dapB s p = dapB s p') → pkDst (t :: l) p' = pkDst l p' := fun p' hs => by
    rw [dst_step, if_neg (by rw [← hs t (List.mem_cons_self ..)]; exact h)]
   rcases dst_cases l p with ⟨g1, g2⟩ | ⟨s, g1, g2, g3, g4⟩
   ·exact .inl ⟨by rw [key p (fun _ _ => rfl)]; exact g1, fun p' hs => by rw [key p' hs]; exact g2 p' (fun x hx => hs x (List.mem_cons_of_mem _ hx))⟩
   ·exact .inr ⟨s, List.mem_cons_of_mem _ g1, g2, by rw [key p (fun _ _ => rfl)]; exact g3, fun p' hs => by rw [key p' hs]; exact g4 p' (fun x hx => hs x (List.mem_cons_of_mem _ hx))⟩
theorem dch_ok {t : Tr} (ht : t.ok) {p : Pkt} (hp : p.ok) : (dchB t p).ok := by
 unfold dchB
 split
 ·rcases ht.kinds with e' | ⟨e', _⟩ | ⟨_, _, h, _⟩
  ·omega
  ·omega
  ·exact ⟨hp.h0, ht.i, hp.h2, hp.h3, h⟩
 ·exact ⟨hp.h0, ht.i, hp.h2, hp.h3, hp.h4⟩
theorem dap_kind {t : Tr} {p : Pkt} (h : dapB t p = true) : (t.k = 1 ∨ t.k = 3) ∧ t.o = p.dst ∧ (t.k = 3 → t.pr = p.proto ∧ t.op = p.dport) := by
 unfold dapB at h
 rw [Bool.or_eq_true, decide_eq_true_eq, decide_eq_true_eq] at h
 rcases h with ⟨h1, h2⟩ | ⟨h1, h2, h3, h4⟩
 ·exact ⟨.inl h1, h2, fun h => by omega⟩
 ·exact ⟨.inr h1, h2, fun _ => ⟨h3, h4⟩⟩

/-! ### rules that ask nothing of the destination -/
def frT (x : Ru) : Ru := { x with da := 0, dm := 4294967295 }
def frQ (x : Ru) : Ru := { x with dl := 0, dh := 65535 }
theorem ru_dst (x : Ru) (p : Pkt) (s : Nat) : ruB x { p with dst := s } = (wmB x.da x.dm s && ruB (frT x) p) := by
 unfold ruB frT
 dsimp only
 rw [wm_any]
 cases (decide (x.pr = -1) || decide (x.pr = p.proto)) <;> cases wmB x.da x.dm s <;> cases wmB x.sa x.sm p.src <;> simp
theorem ru_dpt (x : Ru) {p : Pkt} (hp : p.ok) (o : Int) : ruB x { p with dport := o } = (inB x.dl x.dh o && ruB (frQ x) p) := by
 have e : inB 0 65535 p.dport = true := by
  unfold inB
  exact decide_eq_true hp.h4
 unfold ruB frQ
 dsimp only
 rw [e]
 cases (decide (x.pr = -1) || decide (x.pr = p.proto)) <;> cases inB x.dl x.dh o <;> cases wmB x.sa x.sm p.src <;> cases wmB x.da x.dm p.dst <;> cases inB x.sl x.sh p.sport <;> rfl
def var4 (x : Ru) : List Ru := [x, frT x, frQ x, frQ (frT x)]
theorem var4_D {x y : Ru} (h : y ∈ var4 x) : frT y ∈ var4 x := by
 simp only [var4, List.mem_cons, List.not_mem_nil, or_false] at h ⊢
 rcases h with rfl | rfl | rfl | rfl
 ·exact .inr (.inl rfl)
 ·exact .inr (.inl rfl)
 ·exact .inr (.inr (.inr rfl))
 ·exact .inr (.inr (.inr rfl))
theorem var4_Q {x y : Ru} (h : y ∈ var4 x) : frQ y ∈ var4 x := by
 simp only [var4, List.mem_cons, List.not_mem_nil, or_false] at h ⊢
 rcases h with rfl | rfl | rfl | rfl
 ·exact .inr (.inr (.inl rfl))
 ·exact .inr (.inr (.inr rfl))
 ·exact .inr (.inr (.inl rfl))
 ·exact .inr (.inr (.inr rfl))
structure DEq (ts : List Tr) (gs : List Ru) (p q : Pkt) : Prop where
 g : ∀ x, x ∈ gs.flatMap var4 → ruB x p = ruB x q
 d : ∀ t, t ∈ ts → (t.o = p.dst ↔ t.o = q.dst) ∧ (t.i = p.dst ↔ t.i = q.dst)
 p : ∀ t, t ∈ ts → t.k = 3 → (t.pr = p.proto ↔ t.pr = q.proto) ∧ (t.op = p.dport ↔ t.op = q.dport) ∧ (t.ip = p.dport ↔ t.ip = q.dport)
section
variable {ts : List Tr} {gs : List Ru}
theorem DEq.symm {p q : Pkt} (h : DEq ts gs p q) : DEq ts gs q p := ⟨fun x hx => (h.g x hx).symm, fun t ht => ⟨(h.d t ht).1.symm, (h.d t ht).2.symm⟩, fun t ht hk => ⟨(h.p t ht hk).1.symm, (h.p t ht hk).2.1.symm, (h.p t ht hk).2.2.symm⟩⟩
theorem DEq.dst {p q : Pkt} (h : DEq ts gs p q) (c : Nat) : DEq ts gs { p with dst := c } { q with dst := c } :=
 ⟨fun x hx => by
  rw [ru_dst x p, ru_dst x q]
  obtain ⟨y, hy, hx⟩ := List.mem_flatMap.1 hx
  rw [h.g (frT x) (List.mem_flatMap.2 ⟨y, hy, var4_D hx⟩)], fun t _ => ⟨Iff.rfl, Iff.rfl⟩, fun t ht hk => h.p t ht hk⟩
theorem DEq.dpt {p q : Pkt} (hp : p.ok) (hq : q.ok) (h : DEq ts gs p q) (c : Int) : DEq ts gs { p with dport := c } { q with dport := c } :=
 ⟨fun x hx => by
  rw [ru_dpt x hp c, ru_dpt x hq c]
  obtain ⟨y, hy, hx⟩ := List.mem_flatMap.1 hx
  rw [h.g (frQ x) (List.mem_flatMap.2 ⟨y, hy, var4_Q hx⟩)], fun t ht => h.d t ht, fun t ht hk => ⟨(h.p t ht hk).1, Iff.rfl, Iff.rfl⟩⟩
theorem DEq.dap {p q : Pkt} (h : DEq ts gs p q) : ∀ t, t ∈ ts → dapB t p = dapB t q := fun t ht => by
 unfold dapB
 have h1 := (h.d t ht).1
 have e1 : decide (t.k = 1 ∧ t.o = p.dst) = decide (t.k = 1 ∧ t.o = q.dst) := by rw [decide_eq_decide, h1]
 have e2 : decide (t.k = 3 ∧ t.o = p.dst ∧ t.pr = p.proto ∧ t.op = p.dport) = decide (t.k = 3 ∧ t.o = q.dst ∧ t.pr = q.proto ∧ t.op = q.dport) := by
  rw [decide_eq_decide]
  constructor
  ·rintro ⟨hk, a, b, c⟩
   obtain ⟨x1, x2, _⟩ := h.p t ht hk
   exact ⟨hk, h1.1 a, x1.1 b, x2.1 c⟩
  ·rintro ⟨hk, a, b, c⟩
   obtain ⟨x1, x2, _⟩ := h.p t ht hk
   exact ⟨hk, h1.2 a, x1.2 b, x2.2 c⟩
 rw [e1, e2]
theorem DEq.dch {p q : Pkt} (hp : p.ok) (hq : q.ok) (h : DEq ts gs p q) (t : Tr) : DEq ts gs (dchB t p) (dchB t q) := by
 unfold dchB
 split
 ·exact (h.dpt hp hq t.ip).dst t.i
 ·exact h.dst t.i
theorem DEq.to {p q : Pkt} (hp : p.ok) (hq : q.ok) (h : DEq ts gs p q) : DEq ts gs (pkDst ts p) (pkDst ts q) := by
 rcases dst_cases ts p with ⟨g1, g2⟩ | ⟨t, ht, g2, g3, g4⟩
 ·rw [g1, g2 q h.dap]; exact h
 ·rw [g3, g4 q h.dap]; exact h.dch hp hq t
def unD (t : Tr) (p : Pkt) : Pkt := if t.k = 3 then { p with dst := t.o, dport := t.op } else { p with dst := t.o }
theorem un_dch {t : Tr} {p : Pkt} (h : dapB t p = true) : unD t (dchB t p) = p := by
 obtain ⟨hk, h1, h2⟩ := dap_kind h
 unfold unD dchB
 by_cases h3 : t.k = 3
 ·rw [if_pos h3, if_pos h3, h1, (h2 h3).2]
 ·rw [if_neg h3, if_neg h3, h1]
theorem DEq.un {p q : Pkt} (hp : p.ok) (hq : q.ok) (h : DEq ts gs p q) (t : Tr) : DEq ts gs (unD t p) (unD t q) := by
 unfold unD
 split
 ·exact (h.dpt hp hq t.op).dst t.o
 ·exact h.dst t.o
theorem un_ok {t : Tr} (ht : t.ok) {p : Pkt} (hp : p.ok) : (unD t p).ok := by
 unfold unD
 split
 ·rcases ht.kinds with e' | ⟨e', _⟩ | ⟨_, _, _, h⟩
  ·omega
  ·omega
  ·exact ⟨hp.h0, ht.o, hp.h2, hp.h3, h⟩
 ·exact ⟨hp.h0, ht.o, hp.h2, hp.h3, hp.h4⟩
def DSet (ts : List Tr) (gs : List Ru) (X : Pkt → Bool) : Prop := ∀ p q : Pkt, p.ok → q.ok → DEq ts gs p q → X p = true → X q = true
theorem DSet.gB {ks : List Ru} (h : ∀ x, x ∈ ks → x ∈ gs) : DSet ts gs (gB ks) := fun p q _ _ e hg => by
 unfold Go.Proofs.YtdgnbbmgcgfibaaGreatDoor.gB at hg ⊢
 rw [List.any_eq_true] at hg ⊢
 obtain ⟨x, hx, hg⟩ := hg
 exact ⟨x, hx, by rw [← e.g x (List.mem_flatMap.2 ⟨x, h x hx, List.mem_cons_self ..⟩)]; exact hg⟩
theorem DSet.not {X : Pkt → Bool} (h : DSet ts gs X) : DSet ts gs (fun p => !X p) := fun p q hp hq e hx => by
 have hx : (!X p) = true := hx
 show (!X q) = true
 cases hy : X q
 ·rfl
 ·have := h q p hq hp e.symm hy
  rw [this] at hx; cases hx
theorem DSet.and {X Y : Pkt → Bool} (h : DSet ts gs X) (h' : DSet ts gs Y) : DSet ts gs (fun p => X p && Y p) := fun p q hp hq e hx => by
 have hx : (X p && Y p) = true := hx
 show (X q && Y q) = true
 rw [Bool.and_eq_true] at hx ⊢
 exact ⟨h p q hp hq e hx.1, h' p q hp hq e hx.2⟩
def DImg (ts : List Tr) (X : Pkt → Bool) (q : Pkt) : Prop := ∃ p : Pkt, p.ok ∧ X p = true ∧ q = pkDst ts p
theorem DImg.eq (hok : ∀ t, t ∈ ts → t.ok) {X : Pkt → Bool} (hX : DSet ts gs X) {p q : Pkt} (hp : p.ok) (hq : q.ok) (e : DEq ts gs p q) (h : DImg ts X p) : DImg ts X q := by
 obtain ⟨r, hr, hx, rfl⟩ := h
 rcases dst_cases ts r with ⟨g1, g2⟩ | ⟨t, ht, g2, g3, g4⟩
 ·rw [g1] at e
  exact ⟨q, hq, hX r q hr hq e hx, (g2 q e.dap).symm⟩
 ·obtain ⟨hk, _, h3⟩ := dap_kind g2
  have e' := e.un hp hq t
  rw [g3, un_dch g2] at e'
  refine ⟨unD t q, un_ok (hok t ht) hq, hX r _ hr (un_ok (hok t ht) hq) e' hx, ?_⟩
  rw [g4 _ e'.dap]
  rw [g3] at e
  have d1 := (e.d t ht).2
  unfold dchB at d1
  unfold dchB unD
  by_cases h3 : t.k = 3
  ·simp only [if_pos h3] at d1 ⊢
   have d2 := (e.p t ht h3).2.2
   unfold dchB at d2
   simp only [if_pos h3] at d2
   have e1 := d1.1 trivial
   have e2 := d2.1 trivial
   rw [e1, e2]
  ·simp only [if_neg h3] at d1 ⊢
   have e1 := d1.1 trivial
   rw [e1]

/-! ### codes -/
def DQ (j : Nat) : Nat := 2 ^ (4 * j) * (16 * j + 2) * 9 * 5 * 9
theorem deq_code (hok : ∀ t, t ∈ ts → t.ok) (h4 : ts.length ≤ 4) (n : Nat) : ∃ st : (Nat → Bool) → Nat, (∀ σ, st σ < DQ gs.length) ∧ ∀ σ1 σ2, st σ1 = st σ2 → ∀ p1 p2 : Pkt, p1.ok → p2.ok → (∀ u, u < 104 → u < n → p1.bit u = σ1 u ∧ p2.bit u = σ2 u) → (∀ u, u < 104 → n ≤ u → p1.bit u = p2.bit u) → DEq ts gs p1 p2 := by
 have len4 : ∀ l : List Ru, (l.flatMap var4).length = 4 * l.length := fun l => by
  induction l with
  | nil => rfl
  | cons x l ih => simp only [List.flatMap_cons, List.length_append, List.length_cons, ih]; show 4 + _ = _; omega
 obtain ⟨m1, q1⟩ := PreD.lt (12 + 2 * n) 1 false
 obtain ⟨m2, q2⟩ := PreD.lt (12 + 2 * n) 2 false
 obtain ⟨m4, q4⟩ := PreD.lt (12 + 2 * n) 4 false
 have jr := JA.rules (12 + 2 * n) (gs.flatMap var4)
 have jd := (JA.vals q1 (ts.map (fun t => t.o) ++ ts.map (fun t => t.i))).mono (t := 9) (by rw [List.length_append, List.length_map, List.length_map]; omega)
 have jp := (JA.vals q2 (ts.map (fun t => t.pr.toNat))).mono (t := 5) (by rw [List.length_map]; omega)
 have jq := (JA.vals q4 (ts.map (fun t => t.op.toNat) ++ ts.map (fun t => t.ip.toNat))).mono (t := 9) (by rw [List.length_append, List.length_map, List.length_map]; omega)
 obtain ⟨st, s1, s2⟩ := ((jr.app jd).app jp).app jq
 have back : ∀ u : Nat, (hvar u false - 12) / 2 = u := fun u => by unfold hvar; simp
 refine ⟨fun σ => st (fun v => σ ((v - 12) / 2)), fun σ => Nat.lt_of_lt_of_le (s1 _) ?_, fun σ1 σ2 e p1 p2 ok1 ok2 h1 h2 => ?_⟩
 ·rw [len4]
  unfold DQ
  rw [show 4 * (4 * gs.length) + 2 = 16 * gs.length + 2 by omega]
  exact Nat.le_refl _
 have hv : ∀ u, hvar u false < 12 + 2 * n ↔ u < n := fun u => by unfold hvar; rw [if_neg (by decide)]; omega
 have c1 : pkA false (mxD (ltD (12 + 2 * n)) (fun v => σ1 ((v - 12) / 2)) (ePQ p2 p2)) = p1 := (pkA_iff ok1 false _).2 (fun u hu => by
  rw [mx_lt]
  by_cases hn : u < n
  ·rw [if_pos ((hv u).2 hn), back]; exact (h1 u hu hn).1
  ·rw [if_neg (fun q => hn ((hv u).1 q)), h2 u hu (by omega)]
   unfold ePQ
   rw [gL_at _ (hvar_lt hu false), enc_bit]
   rfl)
 have c2 : pkA false (mxD (ltD (12 + 2 * n)) (fun v => σ2 ((v - 12) / 2)) (ePQ p2 p2)) = p2 := (pkA_iff ok2 false _).2 (fun u hu => by
  rw [mx_lt]
  by_cases hn : u < n
  ·rw [if_pos ((hv u).2 hn), back]; exact (h1 u hu hn).2
  ·rw [if_neg (fun q => hn ((hv u).1 q))]
   unfold ePQ
   rw [gL_at _ (hvar_lt hu false), enc_bit]
   rfl)
 have fe := fun F hF => s2 _ _ e F hF (ePQ p2 p2)
 clear s2 e
 generalize mxD (ltD (12 + 2 * n)) (fun v => σ1 ((v - 12) / 2)) (ePQ p2 p2) = z1 at *
 generalize mxD (ltD (12 + 2 * n)) (fun v => σ2 ((v - 12) / 2)) (ePQ p2 p2) = z2 at *
 have val : ∀ k x, k < 5 → rgF k false x x z1 = rgF k false x x z2 → (x = p1.f k ↔ x = p2.f k) := fun k x hk h => by
  unfold rgF at h
  rw [decide_eq_decide, ← pkA_f false z1 hk, ← pkA_f false z2 hk, c1, c2] at h
  constructor
  ·intro e; have := h.1 ⟨by omega, by omega⟩; omega
  ·intro e; have := h.2 ⟨by omega, by omega⟩; omega
 refine ⟨fun x hx => ?_, fun t ht => ⟨?_, ?_⟩, fun t ht hk => ⟨?_, ?_, ?_⟩⟩
 ·have := fe x.F (List.mem_append.2 (.inl (List.mem_append.2 (.inl (List.mem_append.2 (.inl (List.mem_map.2 ⟨x, hx, rfl⟩)))))))
  rw [ru_pk, ru_pk, c1, c2] at this
  exact this
 ·exact val 1 t.o (by omega) (fe _ (List.mem_append.2 (.inl (List.mem_append.2 (.inl (List.mem_append.2 (.inr (List.mem_map.2 ⟨t.o, List.mem_append.2 (.inl (List.mem_map.2 ⟨t, ht, rfl⟩)), rfl⟩))))))))
 ·exact val 1 t.i (by omega) (fe _ (List.mem_append.2 (.inl (List.mem_append.2 (.inl (List.mem_append.2 (.inr (List.mem_map.2 ⟨t.i, List.mem_append.2 (.inr (List.mem_map.2 ⟨t, ht, rfl⟩)), rfl⟩))))))))
 ·have := val 2 t.pr.toNat (by omega) (fe _ (List.mem_append.2 (.inl (List.mem_append.2 (.inr (List.mem_map.2 ⟨t.pr.toNat, List.mem_map.2 ⟨t, ht, rfl⟩, rfl⟩))))))
  have a := u32_of (x := p1.proto) ⟨ok1.h2.1, by have := ok1.h2.2; omega⟩
  have b := u32_of (x := p2.proto) ⟨ok2.h2.1, by have := ok2.h2.2; omega⟩
  have this : t.pr.toNat = u32 p1.proto ↔ t.pr.toNat = u32 p2.proto := this
  rcases (hok t ht).kinds with e' | ⟨e', _⟩ | ⟨_, h, _⟩ <;> omega
 ·have := val 4 t.op.toNat (by omega) (fe _ (List.mem_append.2 (.inr (List.mem_map.2 ⟨t.op.toNat, List.mem_append.2 (.inl (List.mem_map.2 ⟨t, ht, rfl⟩)), rfl⟩))))
  have a := u32_of (x := p1.dport) ⟨ok1.h4.1, by have := ok1.h4.2; omega⟩
  have b := u32_of (x := p2.dport) ⟨ok2.h4.1, by have := ok2.h4.2; omega⟩
  have this : t.op.toNat = u32 p1.dport ↔ t.op.toNat = u32 p2.dport := this
  rcases (hok t ht).kinds with e' | ⟨e', _⟩ | ⟨_, _, _, h⟩ <;> omega
 ·have := val 4 t.ip.toNat (by omega) (fe _ (List.mem_append.2 (.inr (List.mem_map.2 ⟨t.ip.toNat, List.mem_append.2 (.inr (List.mem_map.2 ⟨t, ht, rfl⟩)), rfl⟩))))
  have a := u32_of (x := p1.dport) ⟨ok1.h4.1, by have := ok1.h4.2; omega⟩
  have b := u32_of (x := p2.dport) ⟨ok2.h4.1, by have := ok2.h4.2; omega⟩
  have this : t.ip.toNat = u32 p1.dport ↔ t.ip.toNat = u32 p2.dport := this
  rcases (hok t ht).kinds with e' | ⟨e', _⟩ | ⟨_, _, h, _⟩ <;> omega

theorem deq_codes (hok : ∀ t, t ∈ ts → t.ok) (h4 : ts.length ≤ 4) : ∃ q : Nat → (Nat → Bool) → Nat, ∀ n, (∀ σ, q n σ < DQ gs.length) ∧ ∀ σ1 σ2, q n σ1 = q n σ2 → ∀ p1 p2 : Pkt, p1.ok → p2.ok → (∀ u, u < 104 → u < n → p1.bit u = σ1 u ∧ p2.bit u = σ2 u) → (∀ u, u < 104 → n ≤ u → p1.bit u = p2.bit u) → DEq ts gs p1 p2 :=
 ⟨fun n => (deq_code (gs := gs) hok h4 n).choose, fun n => (deq_code (gs := gs) hok h4 n).choose_spec⟩

/-! ### preimages -/
def DPreR (ts : List Tr) (X : Pkt → Bool) (N P : Pkt) : Prop := X N = true ∧ N = pkDst ts P
def chB (k3 : Bool) (d q : Pkt) (g : Nat → Bool) : Nat → Bool := fun u => if fieldOf u = 1 then d.bit u else if k3 = true ∧ fieldOf u = 4 then q.bit u else g u
def dsP (c : Nat) : Pkt := { pkz with dst := c }
def dpP (c : Int) : Pkt := { pkz with dport := c }
theorem ch_bit (k3 : Bool) (c : Nat) (d : Int) (p : Pkt) (u : Nat) : (if k3 = true then { p with dst := c, dport := d } else { p with dst := c } : Pkt).bit u = chB k3 (dsP c) (dpP d) p.bit u := by
 unfold chB
 cases k3
 ·simp only [Bool.false_eq_true, if_false, false_and]
  by_cases h : fieldOf u = 1
  ·rw [if_pos h]
   exact bit_eq (by rw [h]; rfl)
  ·rw [if_neg h]
   refine bit_eq ?_
   rcases field_cases u with h' | h' | h' | h' | h'
   ·rw [h']; rfl
   ·exact absurd h' h
   all_goals rw [h']; rfl
 ·simp only [if_true, true_and]
  by_cases h : fieldOf u = 1
  ·rw [if_pos h]
   exact bit_eq (by rw [h]; rfl)
  ·rw [if_neg h]
   by_cases h4 : fieldOf u = 4
   ·rw [if_pos h4]
    exact bit_eq (by rw [h4]; rfl)
   ·rw [if_neg h4]
    refine bit_eq ?_
    rcases field_cases u with h' | h' | h' | h' | h'
    ·rw [h']; rfl
    ·exact absurd h' h
    ·rw [h']; rfl
    ·rw [h']; rfl
    ·exact absurd h' h4
theorem dch_bit (t : Tr) (p : Pkt) (u : Nat) : (dchB t p).bit u = chB (decide (t.k = 3)) (dsP t.i) (dpP t.ip) p.bit u := by
 rw [← ch_bit]
 unfold dchB
 simp only [decide_eq_true_eq]
theorem un_bit (t : Tr) (p : Pkt) (u : Nat) : (unD t p).bit u = chB (decide (t.k = 3)) (dsP t.o) (dpP t.op) p.bit u := by
 rw [← ch_bit]
 unfold unD
 simp only [decide_eq_true_eq]
theorem ch_at {k3 : Bool} {d q : Pkt} {g h : Nat → Bool} {u : Nat} (e : g u = h u) : chB k3 d q g u = chB k3 d q h u := by
 unfold chB
 rw [e]
theorem ch_sub {k3 : Bool} {d q : Pkt} {u : Nat} (h : fieldOf u = 1 ∨ (k3 = true ∧ fieldOf u = 4)) (g g' : Nat → Bool) : chB k3 d q g u = chB k3 d q g' u := by
 unfold chB
 by_cases h1 : fieldOf u = 1
 ·rw [if_pos h1, if_pos h1]
 ·rw [if_neg h1, if_neg h1]
  rcases h with h | h
  ·exact absurd h h1
  ·rw [if_pos h, if_pos h]
def NDP (j : Nat) : Nat := 105 * (2 * 2 ^ 4 * DQ j)
theorem dpre_listed (hok : ∀ t, t ∈ ts → t.ok) (h4 : ts.length ≤ 4) {X : Pkt → Bool} (hX : DSet ts gs X) {F : Bfn} (hF : ∀ w, F w = true ↔ DPreR ts X (pkA true w) (pkA false w)) (M : Mgr) (hn : M.n = 220) (hp : M.Plain) : Listed (M.ProF (hvK true 104) F) (NDP gs.length) := by
 classical
 obtain ⟨q, hq⟩ := deq_codes (gs := gs) hok h4
 obtain ⟨fl, hfl⟩ : ∃ fl : Nat → (Nat → Bool) → (Nat → Bool) → Tr → Bool, fl = fun m α η t => decide (∀ u, u < 104 → u < m → α u = chB (decide (t.k = 3)) (dsP t.i) (dpP t.ip) η u) := ⟨_, rfl⟩
 obtain ⟨b1, hb1⟩ : ∃ b1 : Nat → (Nat → Bool) → (Nat → Bool) → Nat, b1 = fun m α η => if ∀ u, u < 104 → u < m → α u = η u then 1 else 0 := ⟨_, rfl⟩
 have l1 : ∀ m α η, b1 m α η < 2 := fun m α η => by rw [hb1]; dsimp only; split <;> omega
 have lf : ∀ m α η, bmk (fl m α η) ts < 2 ^ 4 := fun m α η => Nat.lt_of_lt_of_le (bmk_lt _ _) (Nat.pow_le_pow_right (by omega) h4)
 have cdl : ∀ m n α η, (b1 m α η * 2 ^ 4 + bmk (fl m α η) ts) * DQ gs.length + q n η < 2 * 2 ^ 4 * DQ gs.length := fun m n α η => mul_add_lt (mul_add_lt (l1 _ _ _) (lf _ _ _)) ((hq _).1 _)
 refine Listed.wit hn hp true (DPreR ts X) hF (fun m n α η => n * (2 * 2 ^ 4 * DQ gs.length) + ((b1 m α η * 2 ^ 4 + bmk (fl m α η) ts) * DQ gs.length + q n η)) (fun m n α η hm hn => mul_add_lt (by omega) (cdl m n α η)) (fun m1 n1 α1 η1 m2 n2 α2 η2 _ hn1 hm1 _ hn2 hm2 e => ?_)
 obtain ⟨rfl, e⟩ := code2 (cdl _ _ _ _) (cdl _ _ _ _) e
 refine ⟨rfl, ?_⟩
 obtain ⟨e, eq⟩ := code2 ((hq _).1 _) ((hq _).1 _) e
 obtain ⟨e1, ef⟩ := code2 (lf _ _ _) (lf _ _ _) e
 have fe := bmk_same ts ef
 have k1 := hm1 rfl
 have k2 := hm2 rfl
 rintro N1 P1 P2 hN hP1 hP2 a1 a2 a3 a4 ⟨hg, hR⟩
 have dq : DEq ts gs P1 P2 := (hq _).2 _ _ eq P1 P2 hP1 hP2 (fun u hu hn => ⟨a2 u hu hn, a3 u hu hn⟩) (fun u hu hn => a4 u hu hn hn)
 have dn := dq.to hP1 hP2
 have ok2 : (pkDst ts P2).ok := pkDst_ok ts hok hP2
 rw [← hR] at dn
 refine ⟨pkDst ts P2, ok2, fun u hu hm => ?_, hX _ _ hN ok2 dn hg, rfl⟩
 rcases dst_cases ts P1 with ⟨g1, g2⟩ | ⟨t, ht, g2, g3, g4⟩
 ·rw [g2 P2 dq.dap, a3 u hu (by omega)]
  rw [hb1] at e1
  dsimp only at e1
  rw [if_pos (fun v hv hm' => by rw [← a1 v hv hm', hR, g1, a2 v hv (by omega)])] at e1
  by_cases h' : ∀ u, u < 104 → u < m2 → α2 u = η2 u
  ·exact (h' u hu hm).symm
  ·rw [if_neg h'] at e1; omega
 ·rw [g4 P2 dq.dap, dch_bit, ch_at (a3 u hu (by omega))]
  have := fe t ht
  rw [hfl] at this
  dsimp only at this
  rw [decide_eq_true (fun v hv hm' => by rw [← a1 v hv hm', hR, g3, dch_bit, ch_at (a2 v hv (by omega))])] at this
  exact (of_decide_eq_true this.symm u hu hm).symm
theorem dpre_st (hok : ∀ t, t ∈ ts → t.ok) (h4 : ts.length ≤ 4) {X : Pkt → Bool} (hX : DSet ts gs X) {F : Bfn} (hF : ∀ w, F w = true ↔ DPreR ts X (pkA true w) (pkA false w)) : PSt 220 (exQ (hvK true 104) F) (DQ gs.length) := by
 obtain ⟨q, hq⟩ := deq_codes (gs := gs) hok h4
 refine PSt.wit true (DPreR ts X) hF (fun n η => q n η) (fun n η _ => (hq n).1 η) (fun n η1 η2 hn eq => ?_)
 rintro N1 P1 P2 hN hP1 hP2 a1 a2 a3 a4 ⟨hg, hR⟩
 have dq : DEq ts gs P1 P2 := (hq _).2 _ _ eq P1 P2 hP1 hP2 (fun u hu hn => ⟨a2 u hu hn, a3 u hu hn⟩) (fun u hu hn => a4 u hu hn hn)
 have dn := dq.to hP1 hP2
 rw [← hR] at dn
 have ok2 : (pkDst ts P2).ok := pkDst_ok ts hok hP2
 exact ⟨pkDst ts P2, ok2, fun u _ h => absurd h (Nat.not_lt_zero _), hX _ _ hN ok2 dn hg, rfl⟩

/-! ### images -/
def DImgR (ts : List Tr) (X : Pkt → Bool) (P N : Pkt) : Prop := X P = true ∧ N = pkDst ts P
def NDI (j : Nat) : Nat := 105 * (3 * (2 * 2 ^ 4 * DQ j))
def agC (k3 : Bool) (d q : Pkt) (m n : Nat) (α η : Nat → Bool) : Prop := ∀ u, u < 104 → u < m → (u < n ∨ fieldOf u = 1 ∨ (k3 = true ∧ fieldOf u = 4)) → α u = chB k3 d q η u
theorem dimg_listed (hok : ∀ t, t ∈ ts → t.ok) (h4 : ts.length ≤ 4) {X : Pkt → Bool} (hX : DSet ts gs X) {F : Bfn} (hF : ∀ w, F w = true ↔ DImgR ts X (pkA false w) (pkA true w)) (M : Mgr) (hn : M.n = 220) (hp : M.Plain) : Listed (M.ProF (hvK false 104) F) (NDI gs.length) := by
 classical
 obtain ⟨q, hq⟩ := deq_codes (gs := gs) hok h4
 obtain ⟨fl, hfl⟩ : ∃ fl : Nat → Nat → (Nat → Bool) → (Nat → Bool) → Tr → Bool, fl = fun m n α η t => decide (agC (decide (t.k = 3)) (dsP t.o) (dpP t.op) m n α η) := ⟨_, rfl⟩
 obtain ⟨b1, hb1⟩ : ∃ b1 : Nat → Nat → (Nat → Bool) → (Nat → Bool) → Nat, b1 = fun m n α η => if ∀ u, u < 104 → u < m → u < n → α u = η u then 1 else 0 := ⟨_, rfl⟩
 obtain ⟨b0, hb0⟩ : ∃ b0 : Nat → Nat → (Nat → Bool) → Nat, b0 = fun m n α => if m ≤ n then 0 else if α n = true then 1 else 2 := ⟨_, rfl⟩
 have l0 : ∀ m n α, b0 m n α < 3 := fun m n α => by rw [hb0]; dsimp only; split; omega; split <;> omega
 have l1 : ∀ m n α η, b1 m n α η < 2 := fun m n α η => by rw [hb1]; dsimp only; split <;> omega
 have lf : ∀ m n α η, bmk (fl m n α η) ts < 2 ^ 4 := fun m n α η => Nat.lt_of_lt_of_le (bmk_lt _ _) (Nat.pow_le_pow_right (by omega) h4)
 have cd1 : ∀ m n α η, (b1 m n α η * 2 ^ 4 + bmk (fl m n α η) ts) * DQ gs.length + q n η < 2 * 2 ^ 4 * DQ gs.length := fun m n α η => mul_add_lt (mul_add_lt (l1 _ _ _ _) (lf _ _ _ _)) ((hq _).1 _)
 have cdl : ∀ m n α η, b0 m n α * (2 * 2 ^ 4 * DQ gs.length) + ((b1 m n α η * 2 ^ 4 + bmk (fl m n α η) ts) * DQ gs.length + q n η) < 3 * (2 * 2 ^ 4 * DQ gs.length) := fun m n α η => mul_add_lt (l0 _ _ _) (cd1 _ _ _ _)
 refine Listed.wit hn hp false (DImgR ts X) hF (fun m n α η => n * (3 * (2 * 2 ^ 4 * DQ gs.length)) + (b0 m n α * (2 * 2 ^ 4 * DQ gs.length) + ((b1 m n α η * 2 ^ 4 + bmk (fl m n α η) ts) * DQ gs.length + q n η))) (fun m n α η hm hn => mul_add_lt (by omega) (cdl m n α η)) (fun m1 n1 α1 η1 m2 n2 α2 η2 hm1 hn1 _ hm2 hn2 _ e => ?_)
 obtain ⟨rfl, e⟩ := code2 (cdl _ _ _ _) (cdl _ _ _ _) e
 refine ⟨rfl, ?_⟩
 obtain ⟨e0, e⟩ := code2 (cd1 _ _ _ _) (cd1 _ _ _ _) e
 obtain ⟨e, eq⟩ := code2 ((hq _).1 _) ((hq _).1 _) e
 obtain ⟨e1, ef⟩ := code2 (lf _ _ _ _) (lf _ _ _ _) e
 have fe := bmk_same ts ef
 have hz : (m1 ≤ n1 ∧ m2 ≤ n1) ∨ (m1 = n1 + 1 ∧ m2 = n1 + 1 ∧ α1 n1 = α2 n1) := by
  rw [hb0] at e0
  dsimp only at e0
  by_cases h1 : m1 ≤ n1
  ·by_cases h2 : m2 ≤ n1
   ·exact .inl ⟨h1, h2⟩
   ·rw [if_pos h1, if_neg h2] at e0
    split at e0 <;> omega
  ·by_cases h2 : m2 ≤ n1
   ·rw [if_neg h1, if_pos h2] at e0
    split at e0 <;> omega
   ·rw [if_neg h1, if_neg h2] at e0
    refine .inr ⟨by omega, by omega, ?_⟩
    cases h : α1 n1 <;> cases h' : α2 n1 <;> simp [h, h'] at e0 ⊢
 rintro P1 N1 N2 hP hN1 hN2 a1 a2 a3 a4 ⟨hg, hR⟩
 have dq : DEq ts gs N1 N2 := (hq _).2 _ _ eq N1 N2 hN1 hN2 (fun u hu hn => ⟨a2 u hu hn, a3 u hu hn⟩) (fun u hu hn => a4 u hu hn hn)
 have last : ∀ u, u < 104 → u < m2 → n1 ≤ u → P1.bit u = N1.bit u → N2.bit u = α2 u := fun u hu hm hn eb => by
  rcases hz with ⟨_, h⟩ | ⟨q1, q2, q3⟩
  ·omega
  ·have eu : u = n1 := by omega
   rw [← a4 u hu hn hn, ← eb, a1 u hu (by omega), eu, q3]
 rcases dst_cases ts P1 with ⟨g1, g2⟩ | ⟨t, ht, g2, g3, g4⟩
 ·have eP : N1 = P1 := by rw [hR, g1]
  subst eP
  refine ⟨N2, hN2, fun u hu hm => ?_, hX N1 N2 hN1 hN2 dq hg, (g2 N2 dq.dap).symm⟩
  by_cases hn : u < n1
  ·rw [a3 u hu hn]
   rw [hb1] at e1
   dsimp only at e1
   rw [if_pos (fun v hv hm' hn' => by rw [← a1 v hv hm', a2 v hv hn'])] at e1
   by_cases h' : ∀ u, u < 104 → u < m2 → u < n1 → α2 u = η2 u
   ·exact (h' u hu hm hn).symm
   ·rw [if_neg h'] at e1; omega
  ·exact last u hu hm (by omega) rfl
 ·obtain ⟨hk, _, _⟩ := dap_kind g2
  have eU : unD t N1 = P1 := by rw [hR, g3, un_dch g2]
  have dU := dq.un hN1 hN2 t
  have okU := un_ok (hok t ht) hN2
  rw [eU] at dU
  obtain ⟨r, hr, hx, her⟩ := DImg.eq hok hX hN1 hN2 dq ⟨P1, hP, hg, hR⟩
  -- the packet ahead
  have e2 : N2 = pkDst ts (unD t N2) := by
   rw [g4 _ dU.dap]
   have dd := dq
   rw [hR, g3] at dd
   have d1 := (dd.d t ht).2
   unfold dchB at d1
   unfold dchB unD
   by_cases h3 : t.k = 3
   ·simp only [if_pos h3] at d1 ⊢
    have d2 := (dd.p t ht h3).2.2
    unfold dchB at d2
    simp only [if_pos h3] at d2
    have e1 := d1.1 trivial
    have e2 := d2.1 trivial
    rw [e1, e2]
   ·simp only [if_neg h3] at d1 ⊢
    have e1 := d1.1 trivial
    rw [e1]
  refine ⟨unD t N2, okU, fun u hu hm => ?_, hX P1 _ hP okU dU hg, e2⟩
  rw [un_bit]
  have bP : ∀ v, P1.bit v = chB (decide (t.k = 3)) (dsP t.o) (dpP t.op) N1.bit v := fun v => by rw [← un_bit, eU]
  have ag1 : agC (decide (t.k = 3)) (dsP t.o) (dpP t.op) m1 n1 α1 η1 := fun v hv hm' hc => by
   rw [← a1 v hv hm', bP v]
   rcases hc with hn | h | h
   ·exact ch_at (a2 v hv hn)
   ·exact ch_sub (.inl h) _ _
   ·exact ch_sub (.inr h) _ _
  have := fe t ht
  rw [hfl] at this
  dsimp only at this
  rw [decide_eq_true ag1] at this
  have ag2 := of_decide_eq_true this.symm
  by_cases hc : u < n1 ∨ fieldOf u = 1 ∨ (decide (t.k = 3) = true ∧ fieldOf u = 4)
  ·rw [ag2 u hu hm hc]
   rcases hc with hn | h | h
   ·exact ch_at (a3 u hu hn)
   ·exact ch_sub (.inl h) _ _
   ·exact ch_sub (.inr h) _ _
  ·have n1' : ¬ u < n1 := fun h => hc (.inl h)
   have f1 : ¬ fieldOf u = 1 := fun h => hc (.inr (.inl h))
   have f4 : ¬ (decide (t.k = 3) = true ∧ fieldOf u = 4) := fun h => hc (.inr (.inr h))
   have eN : ∀ g : Nat → Bool, chB (decide (t.k = 3)) (dsP t.o) (dpP t.op) g u = g u := fun g => by unfold chB; rw [if_neg f1, if_neg f4]
   rw [eN]
   exact last u hu hm (by omega) (by rw [bP, eN])
theorem dimg_st (hok : ∀ t, t ∈ ts → t.ok) (h4 : ts.length ≤ 4) {X : Pkt → Bool} (hX : DSet ts gs X) {F : Bfn} (hF : ∀ w, F w = true ↔ DImgR ts X (pkA false w) (pkA true w)) : PSt 220 (exQ (hvK false 104) F) (DQ gs.length) := by
 obtain ⟨q, hq⟩ := deq_codes (gs := gs) hok h4
 refine PSt.wit false (DImgR ts X) hF (fun n η => q n η) (fun n η _ => (hq n).1 η) (fun n η1 η2 hn eq => ?_)
 rintro P1 N1 N2 hP hN1 hN2 a1 a2 a3 a4 ⟨hg, hR⟩
 have dq : DEq ts gs N1 N2 := (hq _).2 _ _ eq N1 N2 hN1 hN2 (fun u hu hn => ⟨a2 u hu hn, a3 u hu hn⟩) (fun u hu hn => a4 u hu hn hn)
 obtain ⟨r, hr, hx, her⟩ := DImg.eq hok hX hN1 hN2 dq ⟨P1, hP, hg, hR⟩
 exact ⟨r, hr, fun u _ h => absurd h (Nat.not_lt_zero _), hx, her⟩
end
end Go.Proofs.YtdgnbbmgcgfibaaGreatDoor
