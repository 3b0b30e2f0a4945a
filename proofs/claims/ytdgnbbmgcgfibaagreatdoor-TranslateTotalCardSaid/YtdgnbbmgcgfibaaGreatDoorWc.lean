/-
 Plain mathematics: how many functions an image under the relation of sources makes on the way, if the set is given by rules.
-/
import Derived.Test.YtdgnbbmgcgfibaaGreatDoorPj
namespace Go.Proofs.YtdgnbbmgcgfibaaGreatDoor
open Go.RowKit

/-! ### functions that split at the given variables -/
def SpD (D : Nat → Bool) (C : Bfn) : Prop := ∃ al res : Bfn, ∀ a b, C (mxD D a b) = (al a && res b)
theorem SpD.cube {D : Nat → Bool} {C : Bfn} (h : IsCube C) : SpD D C := by
 obtain ⟨l, rfl⟩ := h
 exact ⟨_, _, fun a b => cuF_mx D l a b⟩
theorem SpD.free {D : Nat → Bool} {C : Bfn} (h : ∀ a b, C (mxD D a b) = C b) : SpD D C := ⟨fun _ => true, C, fun a b => by rw [h, Bool.true_and]⟩
theorem SpD.all {D : Nat → Bool} {C : Bfn} (h : ∀ a b, C (mxD D a b) = C a) : SpD D C := ⟨C, fun _ => true, fun a b => by rw [h, Bool.and_true]⟩
theorem SpD.and {D : Nat → Bool} {C E : Bfn} (h : SpD D C) (g : SpD D E) : SpD D (fun a => C a && E a) := by
 obtain ⟨a1, r1, h1⟩ := h
 obtain ⟨a2, r2, h2⟩ := g
 refine ⟨fun a => a1 a && a2 a, fun b => r1 b && r2 b, fun a b => ?_⟩
 dsimp only
 rw [h1, h2]
 cases a1 a <;> cases a2 a <;> cases r1 b <;> cases r2 b <;> rfl
theorem JA.codeA {A : Type} {D : Nat → Bool} (l : List A) (fn : A → Bfn) (p : (Nat → Bool) → Nat) {m : Nat} (hp : ∀ a, p a < m) (al : A → (Nat → Bool) → Bool) (h : ∀ x, x ∈ l → ∀ a a', p a = p a' → al x a = al x a' → ∀ b, fn x (mxD D a b) = fn x (mxD D a' b)) : JA D (l.map fn) (m * 2 ^ l.length) := by
 obtain ⟨st, h1, h2⟩ := vec al l
 refine ⟨fun a => p a * 2 ^ l.length + st a, fun a => ?_, fun a a' e F hF b => ?_⟩
 ·have a1 := hp a
  have a2 := h1 a
  have : (p a + 1) * 2 ^ l.length ≤ m * 2 ^ l.length := Nat.mul_le_mul_right _ a1
  rw [Nat.add_mul] at this
  dsimp only
  omega
 ·obtain ⟨e1, e2⟩ := code2 (h1 a) (h1 a') e
  obtain ⟨x, hx, rfl⟩ := List.mem_map.1 hF
  exact h x hx a a' e1 (h2 a a' e2 x hx) b
theorem JA.splits {A : Type} {D : Nat → Bool} (l : List A) (fn : A → Bfn) (h : ∀ x, x ∈ l → SpD D (fn x)) : JA D (l.map fn) (2 ^ l.length) := by
 classical
 refine (JA.codeA l fn (fun _ => 0) (m := 1) (fun _ => Nat.one_pos) (fun x a => if h : SpD D (fn x) then h.choose a else false) (fun x hx a a' _ e b => ?_)).mono (by omega)
 rw [dif_pos (h x hx), dif_pos (h x hx)] at e
 obtain ⟨res, hr⟩ := (h x hx).choose_spec
 rw [hr, hr, e]

/-! ### ranges of one field -/
def pfV (k m : Nat) (nx : Bool) (a : Nat → Bool) : Nat := bval (fun i => fbit k nx a (fw k - m + i)) m
def endsL {A : Type} (l : List (A × Nat × Nat)) : List Nat := l.map (fun x => x.2.1) ++ l.map (fun x => x.2.2)
theorem endsL_len {A : Type} (l : List (A × Nat × Nat)) : (endsL l).length = 2 * l.length := by unfold endsL; simp; omega
theorem rg_pos {D : Nat → Bool} {k m : Nat} {nx : Bool} (h : PreD D k nx m) {lo hi : Nat} {a a' : Nat → Bool} (h1 : cmp3 (pfV k m nx a) (lo / 2 ^ (fw k - m)) = cmp3 (pfV k m nx a') (lo / 2 ^ (fw k - m))) (h2 : cmp3 (pfV k m nx a) (hi / 2 ^ (fw k - m)) = cmp3 (pfV k m nx a') (hi / 2 ^ (fw k - m))) (b : Nat → Bool) : rgF k nx lo hi (mxD D a b) = rgF k nx lo hi (mxD D a' b) := by
 have hw := bval_lt (fbit k nx b) (fw k - m)
 have k1 := (cmp3_le (lo := lo) hw h1).1
 have k2 := (cmp3_le (lo := hi) hw h2).2
 unfold rgF
 rw [fval_mx h, fval_mx h, Bool.eq_iff_iff, decide_eq_true_eq, decide_eq_true_eq]
 exact and_congr k1 k2
theorem rg_decided {D : Nat → Bool} {k m : Nat} {nx : Bool} (h : PreD D k nx m) {lo hi : Nat} {a : Nat → Bool} (h1 : pfV k m nx a ≠ lo / 2 ^ (fw k - m)) (h2 : pfV k m nx a ≠ hi / 2 ^ (fw k - m)) (b : Nat → Bool) :
  rgF k nx lo hi (mxD D a b) = decide (lo / 2 ^ (fw k - m) < pfV k m nx a ∧ pfV k m nx a < hi / 2 ^ (fw k - m)) := by
 have hw := bval_lt (fbit k nx b) (fw k - m)
 have hp : 0 < 2 ^ (fw k - m) := Nat.pow_pos (by omega)
 have below : ∀ t V w : Nat, w < 2 ^ (fw k - m) → (V < t / 2 ^ (fw k - m) → w + 2 ^ (fw k - m) * V < t) ∧ (t / 2 ^ (fw k - m) < V → t < w + 2 ^ (fw k - m) * V) := fun t V w hw => by
  have e := Nat.div_add_mod t (2 ^ (fw k - m))
  have hm := Nat.mod_lt t hp
  constructor
  ·intro hx
   have := Nat.mul_le_mul_left (2 ^ (fw k - m)) (show V + 1 ≤ t / 2 ^ (fw k - m) from hx)
   rw [Nat.mul_add] at this; omega
  ·intro hx
   have := Nat.mul_le_mul_left (2 ^ (fw k - m)) (show t / 2 ^ (fw k - m) + 1 ≤ V from hx)
   rw [Nat.mul_add] at this; omega
 unfold rgF
 rw [fval_mx h, decide_eq_decide]
 show _ ≤ _ + 2 ^ (fw k - m) * pfV k m nx a ∧ _ + 2 ^ (fw k - m) * pfV k m nx a ≤ _ ↔ _
 obtain ⟨l1, l2⟩ := below lo (pfV k m nx a) _ hw
 obtain ⟨u1, u2⟩ := below hi (pfV k m nx a) _ hw
 constructor
 ·rintro ⟨g1, g2⟩
  refine ⟨?_, ?_⟩
  ·rcases Nat.lt_or_ge (lo / 2 ^ (fw k - m)) (pfV k m nx a) with q | q
   ·exact q
   ·exact absurd (l1 (by omega)) (by omega)
  ·rcases Nat.lt_or_ge (pfV k m nx a) (hi / 2 ^ (fw k - m)) with q | q
   ·exact q
   ·exact absurd (u2 (by omega)) (by omega)
 ·rintro ⟨g1, g2⟩
  exact ⟨Nat.le_of_lt (l2 g1), Nat.le_of_lt (u1 g2)⟩
theorem JA.ranged {D : Nat → Bool} {k m : Nat} {nx : Bool} (h : PreD D k nx m) (l : List (Bfn × Nat × Nat)) (hl : ∀ x, x ∈ l → SpD D x.1) : JA D (l.map fun x a => x.1 a && rgF k nx x.2.1 x.2.2 a) ((2 * l.length + 1) * 2 ^ l.length) := by
 classical
 have hle : ∀ a, fstP (fun t a => pfV k m nx a = t / 2 ^ (fw k - m)) (endsL l) a < 2 * l.length + 1 := fun a => by
  have := fstP_le (fun t a => pfV k m nx a = t / 2 ^ (fw k - m)) a (endsL l)
  rw [endsL_len] at this
  omega
 refine JA.codeA l _ (fun a => fstP (fun t a => pfV k m nx a = t / 2 ^ (fw k - m)) (endsL l) a) hle (fun x a => (if h : SpD D x.1 then h.choose a else false) && decide (x.2.1 / 2 ^ (fw k - m) ≤ pfV k m nx a ∧ pfV k m nx a ≤ x.2.2 / 2 ^ (fw k - m))) (fun x hx a a' e1 e2 b => ?_)
 have lo_mem : x.2.1 ∈ endsL l := List.mem_append.2 (.inl (List.mem_map.2 ⟨x, hx, rfl⟩))
 have hi_mem : x.2.2 ∈ endsL l := List.mem_append.2 (.inr (List.mem_map.2 ⟨x, hx, rfl⟩))
 rw [dif_pos (hl x hx), dif_pos (hl x hx)] at e2
 obtain ⟨res, hr⟩ := (hl x hx).choose_spec
 generalize (hl x hx).choose = al at e2 hr
 rw [hr, hr]
 rcases fstP_eq _ _ e1 with ⟨t, _, g, g'⟩ | g
 ·-- the same bits of the field
  have ev : pfV k m nx a = pfV k m nx a' := by rw [g, g']
  rw [rg_pos h (a := a) (a' := a') (by rw [ev]) (by rw [ev]) b]
  rw [ev] at e2
  by_cases hc : x.2.1 / 2 ^ (fw k - m) ≤ pfV k m nx a' ∧ pfV k m nx a' ≤ x.2.2 / 2 ^ (fw k - m)
  ·rw [decide_eq_true hc, Bool.and_true, Bool.and_true] at e2
   rw [e2]
  ·have z : rgF k nx x.2.1 x.2.2 (mxD D a' b) = false := by
    rw [Bool.eq_false_iff]
    intro hz
    unfold rgF at hz
    rw [fval_mx h, decide_eq_true_eq] at hz
    refine hc ⟨?_, ?_⟩
    ·refine Nat.lt_succ_iff.1 (Nat.div_lt_of_lt_mul ?_)
     have hw := bval_lt (fbit k nx b) (fw k - m)
     have : 2 ^ (fw k - m) * (pfV k m nx a' + 1) = 2 ^ (fw k - m) * pfV k m nx a' + 2 ^ (fw k - m) := by rw [Nat.mul_add, Nat.mul_one]
     rw [Nat.succ_eq_add_one, this]
     have := hz.1
     unfold pfV
     omega
    ·rw [Nat.le_div_iff_mul_le (Nat.pow_pos (by omega)), Nat.mul_comm]
     have := hz.2
     unfold pfV
     omega
   rw [z, Bool.and_false, Bool.and_false]
 ·have d1 := rg_decided h (lo := x.2.1) (hi := x.2.2) (a := a) (g _ lo_mem).1 (g _ hi_mem).1 b
  have d2 := rg_decided h (lo := x.2.1) (hi := x.2.2) (a := a') (g _ lo_mem).2 (g _ hi_mem).2 b
  have n1 := (g _ lo_mem).1
  have n2 := (g _ hi_mem).1
  have n3 := (g _ lo_mem).2
  have n4 := (g _ hi_mem).2
  have c1 : decide (x.2.1 / 2 ^ (fw k - m) ≤ pfV k m nx a ∧ pfV k m nx a ≤ x.2.2 / 2 ^ (fw k - m)) = decide (x.2.1 / 2 ^ (fw k - m) < pfV k m nx a ∧ pfV k m nx a < x.2.2 / 2 ^ (fw k - m)) := by rw [decide_eq_decide]; omega
  have c2 : decide (x.2.1 / 2 ^ (fw k - m) ≤ pfV k m nx a' ∧ pfV k m nx a' ≤ x.2.2 / 2 ^ (fw k - m)) = decide (x.2.1 / 2 ^ (fw k - m) < pfV k m nx a' ∧ pfV k m nx a' < x.2.2 / 2 ^ (fw k - m)) := by rw [decide_eq_decide]; omega
  rw [d1, d2]
  rw [c1, c2] at e2
  generalize decide (x.2.1 / 2 ^ (fw k - m) < pfV k m nx a ∧ pfV k m nx a < x.2.2 / 2 ^ (fw k - m)) = r1 at *
  generalize decide (x.2.1 / 2 ^ (fw k - m) < pfV k m nx a' ∧ pfV k m nx a' < x.2.2 / 2 ^ (fw k - m)) = r2 at *
  generalize al a = z1 at *
  generalize al a' = z2 at *
  cases z1 <;> cases z2 <;> cases r1 <;> cases r2 <;> simp_all
theorem JA.vals {D : Nat → Bool} {k m : Nat} {nx : Bool} (h : PreD D k nx m) (l : List Nat) : JA D (l.map fun x => rgF k nx x x) (l.length + 1) := by
 classical
 refine ⟨fun a => fstP (fun t a => pfV k m nx a = t / 2 ^ (fw k - m)) l a, fun a => Nat.lt_succ_of_le (fstP_le _ a l), fun a a' e F hF b => ?_⟩
 obtain ⟨x, hx, rfl⟩ := List.mem_map.1 hF
 rcases fstP_eq _ _ e with ⟨t, _, g, g'⟩ | g
 ·have ev : pfV k m nx a = pfV k m nx a' := by rw [g, g']
  exact rg_pos h (by rw [ev]) (by rw [ev]) b
 ·rw [rg_decided h (g x hx).1 (g x hx).1, rg_decided h (g x hx).2 (g x hx).2]
  rw [decide_eq_false (by omega), decide_eq_false (by omega)]

/-! ### rules -/
def KR (low : Bool) (n : Nat) : Nat := if low = true then 1 else 2 * n + 1
theorem JA.rulesE {D : Nat → Bool} {m3 m4 : Nat} (p3 : PreD D 3 false m3) (p4 : PreD D 4 false m4) (h : m3 = 0 ∨ m3 = 16 ∨ m4 = 0) (l : List Ru) (low : Bool) (hlow : low = true → m3 = 0 ∧ m4 = 0) : JA D (l.map Ru.F) (KR low l.length * 2 ^ l.length) := by
 have f0 : ∀ {k : Nat}, (k = 3 ∨ k = 4) → PreD D k false 0 → ∀ lo hi, ∀ a b : Nat → Bool, wnF k lo hi (mxD D a b) = wnF k lo hi b := fun {k} hk p lo hi a b => by
  have hf : fval k false (mxD D a b) = fval k false b := by
   unfold fval
   refine bval_congr _ (fun i hi => ?_)
   unfold fbit mxD
   rw [if_neg (fun q => by have := (p.2 _ (by omega)).1 q; omega)]
  unfold wnF rgF
  rw [hf]
 have f16 : PreD D 3 false 16 → ∀ lo hi, ∀ a b : Nat → Bool, wnF 3 lo hi (mxD D a b) = wnF 3 lo hi a := fun p lo hi a b => by
  have hf : fval 3 false (mxD D a b) = fval 3 false a := by
   unfold fval
   refine bval_congr _ (fun i hi => ?_)
   unfold fbit mxD
   have : fw 3 = 16 := rfl
   rw [if_pos ((p.2 _ (by omega)).2 (by omega))]
  unfold wnF rgF
  rw [hf]
 have hF : ∀ x : Ru, ∀ a, x.F a = (x.cu a && wnF 4 x.dl x.dh a && rgF 3 false (wnP x.sl x.sh).1 (wnP x.sl x.sh).2 a) := fun x a => by
  show (x.cu a && wnF 3 x.sl x.sh a && wnF 4 x.dl x.dh a) = _
  show _ = (x.cu a && wnF 4 x.dl x.dh a && wnF 3 x.sl x.sh a)
  cases x.cu a <;> cases wnF 3 x.sl x.sh a <;> cases wnF 4 x.dl x.dh a <;> rfl
 have one : ∀ n : Nat, 1 ≤ KR low n := fun n => by unfold KR; split <;> omega
 by_cases hz : m3 = 0 ∧ m4 = 0
 ·obtain ⟨rfl, rfl⟩ := hz
  refine (JA.splits l Ru.F (fun x _ => ?_)).mono (by have := Nat.mul_le_mul_right (2 ^ l.length) (one l.length); omega)
  exact ((SpD.cube x.cu_cube).and (SpD.free (f0 (.inl rfl) p3 _ _))).and (SpD.free (f0 (.inr rfl) p4 _ _))
 ·have e1 : KR low l.length = 2 * l.length + 1 := by
   unfold KR
   rw [if_neg (fun q => hz (hlow q))]
  rw [e1]
  by_cases h4 : m4 = 0
  ·subst h4
   have := JA.ranged p3 (l.map fun x => ((fun a => x.cu a && wnF 4 x.dl x.dh a : Bfn), wnP x.sl x.sh)) (fun y hy => by
    obtain ⟨x, _, rfl⟩ := List.mem_map.1 hy
    exact (SpD.cube x.cu_cube).and (SpD.free (f0 (.inr rfl) p4 _ _)))
   rw [List.map_map, List.length_map] at this
   refine JA.fns this (fun G hG a a' e => ?_)
   obtain ⟨x, hx, rfl⟩ := List.mem_map.1 hG
   rw [hF x, hF x]
   exact e _ (List.mem_map.2 ⟨x, hx, rfl⟩)
  ·have sp : ∀ x : Ru, SpD D (wnF 3 x.sl x.sh) := fun x => by
    rcases h with rfl | rfl | h
    ·exact SpD.free (f0 (.inl rfl) p3 _ _)
    ·exact SpD.all (f16 p3 _ _)
    ·exact absurd h h4
   have := JA.ranged p4 (l.map fun x => ((x.c1 : Bfn), wnP x.dl x.dh)) (fun y hy => by
    obtain ⟨x, _, rfl⟩ := List.mem_map.1 hy
    exact (SpD.cube x.cu_cube).and (sp x))
   rw [List.map_map, List.length_map] at this
   refine JA.fns this (fun G hG a a' e => ?_)
   obtain ⟨x, hx, rfl⟩ := List.mem_map.1 hG
   exact e _ (List.mem_map.2 ⟨x, hx, rfl⟩)
end Go.Proofs.YtdgnbbmgcgfibaaGreatDoor

namespace Go.Proofs.YtdgnbbmgcgfibaaGreatDoor
open Go.RowKit

/-! ### packets and their bits -/
def pkB (g : Nat → Bool) : Pkt := pkA false (fun v => g ((v - 12) / 2))
theorem pkB_ok (g : Nat → Bool) : (pkB g).ok := pkA_ok _ _
theorem pkB_bit (g : Nat → Bool) {u : Nat} (hu : u < 104) : (pkB g).bit u = g u := by
 unfold pkB
 rw [pkA_bit _ _ hu]
 show g ((hvar u false - 12) / 2) = g u
 congr 1
 unfold hvar
 simp
theorem field0_iff {u : Nat} : fieldOf u = 0 ↔ u < 32 := by
 constructor
 ·exact field0
 ·intro h
  unfold fieldOf
  rw [if_pos h]
/-! ### sources -/
def sapB (ac : ByteArray → List Ru) (t : Tr) (p : Pkt) : Bool := decide (t.k = 1 ∧ t.i = p.src) || (decide (t.k = 2) && pmB ac t.nm p) || decide (t.k = 3 ∧ t.i = p.src ∧ t.pr = p.proto ∧ t.ip = p.sport)
def resB (t : Tr) (p q : Pkt) : Prop := (t.k = 1 ∧ q = { p with src := t.o }) ∨ (t.k = 2 ∧ ∃ j, j < t.hi - t.lo + 1 ∧ q = { p with src := t.lo + j }) ∨ (t.k = 3 ∧ q = { p with src := t.o, sport := t.op })
theorem src_step (ac : ByteArray → List Ru) (t : Tr) (ht : t.ok) (l : List Tr) (p q : Pkt) : q ∈ pkSrc ac (t :: l) p ↔ (sapB ac t p = true ∧ resB t p q) ∨ (sapB ac t p = false ∧ q ∈ pkSrc ac l p) := by
 have e0 : pkSrc ac (t :: l) p = if t.k = 1 ∧ t.i = p.src then [{ p with src := t.o }] else if t.k = 2 ∧ pmB ac t.nm p = true then poolP t.lo (t.hi - t.lo + 1) p else if t.k = 3 ∧ t.i = p.src ∧ t.pr = p.proto ∧ t.ip = p.sport then [{ p with src := t.o, sport := t.op }] else pkSrc ac l p := rfl
 rw [e0]
 generalize pkSrc ac l p = rest
 unfold sapB resB
 rcases ht.kinds with e | ⟨e, _, _⟩ | ⟨e, _, _, _⟩
 ·by_cases hi : t.i = p.src
  ·rw [if_pos ⟨e, hi⟩, List.mem_singleton]
   simp [e, hi]
  ·rw [if_neg (fun h => hi h.2), if_neg (fun h => by have := h.1; omega), if_neg (fun h => by have := h.1; omega)]
   simp [e, hi]
 ·rw [if_neg (fun h => by have := h.1; omega)]
  cases hm : pmB ac t.nm p
  ·rw [if_neg (fun h => by have := h.2; cases this), if_neg (fun h => by have := h.1; omega)]
   simp [e]
  ·rw [if_pos ⟨e, rfl⟩, mem_pool]
   simp [e]
 ·by_cases hi : t.i = p.src ∧ t.pr = p.proto ∧ t.ip = p.sport
  ·rw [if_neg (fun h => by have := h.1; omega), if_neg (fun h => by have := h.1; omega), if_pos ⟨e, hi⟩, List.mem_singleton]
   simp [e, hi]
  ·rw [if_neg (fun h => by have := h.1; omega), if_neg (fun h => by have := h.1; omega), if_neg (fun h => hi h.2)]
   simp only [e, hi]
   simp
theorem src_cases (ac : ByteArray → List Ru) : ∀ ts : List Tr, (∀ t, t ∈ ts → t.ok) → ∀ p q, q ∈ pkSrc ac ts p →
  (q = p ∧ ∀ p', (∀ t, t ∈ ts → sapB ac t p = sapB ac t p') → p' ∈ pkSrc ac ts p') ∨
  ∃ t, t ∈ ts ∧ sapB ac t p = true ∧ resB t p q ∧ ∀ p' q', (∀ t, t ∈ ts → sapB ac t p = sapB ac t p') → resB t p' q' → q' ∈ pkSrc ac ts p'
 | [], _, p, q, h => .inl ⟨List.mem_singleton.1 h, fun p' _ => List.mem_singleton.2 rfl⟩
 | t :: l, hok, p, q, h => by
  have ht := hok t (List.mem_cons_self ..)
  rcases (src_step ac t ht l p q).1 h with ⟨h1, h2⟩ | ⟨h1, h2⟩
  ·exact .inr ⟨t, List.mem_cons_self .., h1, h2, fun p' q' hs hr => (src_step ac t ht l p' q').2 (.inl ⟨by rw [← hs t (List.mem_cons_self ..)]; exact h1, hr⟩)⟩
  ·rcases src_cases ac l (fun x hx => hok x (List.mem_cons_of_mem _ hx)) p q h2 with ⟨g1, g2⟩ | ⟨s, g1, g2, g3, g4⟩
   ·exact .inl ⟨g1, fun p' hs => (src_step ac t ht l p' p').2 (.inr ⟨by rw [← hs t (List.mem_cons_self ..)]; exact h1, g2 p' (fun x hx => hs x (List.mem_cons_of_mem _ hx))⟩)⟩
   ·exact .inr ⟨s, List.mem_cons_of_mem _ g1, g2, g3, fun p' q' hs hr => (src_step ac t ht l p' q').2 (.inr ⟨by rw [← hs t (List.mem_cons_self ..)]; exact h1, g4 p' q' (fun x hx => hs x (List.mem_cons_of_mem _ hx)) hr⟩)⟩
def spA (ts : List Tr) : List Nat := ts.flatMap fun t => if t.k = 2 then (List.range 8).map (fun j => t.lo + j) else [t.o]
theorem spA_len : ∀ ts : List Tr, (spA ts).length ≤ 8 * ts.length
 | [] => Nat.le_refl _
 | t :: l => by
  have := spA_len l
  unfold spA at this ⊢
  simp only [List.flatMap_cons, List.length_append, List.length_cons]
  have : (if t.k = 2 then (List.range 8).map (fun j => t.lo + j) else [t.o]).length ≤ 8 := by split <;> simp
  omega
theorem res_src {ts : List Tr} {t : Tr} (hm : t ∈ ts) (ht : t.ok) {p q : Pkt} (h : resB t p q) : q.src ∈ spA ts := by
 refine List.mem_flatMap.2 ⟨t, hm, ?_⟩
 rcases h with ⟨e, rfl⟩ | ⟨e, j, hj, rfl⟩ | ⟨e, rfl⟩
 ·rw [if_neg (by omega)]; exact List.mem_singleton.2 rfl
 ·rw [if_pos e]
  refine List.mem_map.2 ⟨j, List.mem_range.2 ?_, rfl⟩
  rcases ht.kinds with e' | ⟨_, e1, e2⟩ | ⟨e', _⟩ <;> omega
 ·rw [if_neg (by omega)]; exact List.mem_singleton.2 rfl

/-! ### what a code says -/
def gB (gs : List Ru) (p : Pkt) : Bool := gs.any fun x => ruB x p
structure Same (ac : ByteArray → List Ru) (ts : List Tr) (gs : List Ru) (p1 p2 : Pkt) : Prop where
 g : ∀ x, x ∈ gs → ruB x p1 = ruB x p2
 s : ∀ t, t ∈ ts → sapB ac t p1 = sapB ac t p2
theorem Same.gB {ac : ByteArray → List Ru} {ts : List Tr} {gs : List Ru} {p1 p2 : Pkt} (h : Same ac ts gs p1 p2) (hg : gB gs p1 = true) : gB gs p2 = true := by
 unfold Go.Proofs.YtdgnbbmgcgfibaaGreatDoor.gB at hg ⊢
 rw [List.any_eq_true] at hg ⊢
 obtain ⟨x, hx, e⟩ := hg
 exact ⟨x, hx, by rw [← h.g x hx]; exact e⟩
def agS (S : Nat → Bool) (m n : Nat) (α η : Nat → Bool) : Prop := ∀ u, u < 104 → S u = true → u < m → u < n → α u = η u
def sSrc : Nat → Bool := fun u => decide (u < 32)
def sPort : Nat → Bool := fun u => decide (fieldOf u = 3)
def sRest : Nat → Bool := fun u => !decide (u < 32) && !decide (fieldOf u = 3)
theorem s_cases (u : Nat) : sSrc u = true ∨ sPort u = true ∨ sRest u = true := by
 unfold sSrc sPort sRest
 by_cases h : u < 32
 ·exact .inl (decide_eq_true h)
 ·by_cases h3 : fieldOf u = 3
  ·exact .inr (.inl (decide_eq_true h3))
  ·refine .inr (.inr ?_)
   simp [h, h3]
theorem agS_all {m n : Nat} {α η : Nat → Bool} (h0 : agS sSrc m n α η) (h1 : agS sPort m n α η) (h2 : agS sRest m n α η) {u : Nat} (hu : u < 104) (hm : u < m) (hn : u < n) : α u = η u := by
 rcases s_cases u with h | h | h
 ·exact h0 u hu h hm hn
 ·exact h1 u hu h hm hn
 ·exact h2 u hu h hm hn
def ipP (t : Tr) : Pkt := { pkz with sport := t.ip }
def opP (t : Tr) : Pkt := { pkz with sport := t.op }
def srP (s : Nat) : Pkt := { pkz with src := s }
def okZ (ts : List Tr) (m n : Nat) (α η : Nat → Bool) : Prop := agS sRest m n α η ∧ (agS sPort m n α η ∨ ∃ t, t ∈ ts ∧ t.k = 3)
def fw1 (m n : Nat) (α η : Nat → Bool) : Prop := agS sPort m n α η
def fw2 (t : Tr) (m : Nat) (α : Nat → Bool) : Prop := ∀ u, u < 104 → fieldOf u = 3 → u < m → (ipP t).bit u = α u
def fw3 (t : Tr) (n : Nat) (η : Nat → Bool) : Prop := ∀ u, u < 104 → fieldOf u = 3 → u < n → (opP t).bit u = η u
def spS (n : Nat) (s : Nat) (η : Nat → Bool) : Prop := ∀ u, u < 32 → u < n → (srP s).bit u = η u
def dgB (m n : Nat) (yo : Bool) : Nat → Bool := fun u => if u < 32 then decide (u < m) else decide (u < n) && !(yo && decide (fieldOf u = 3))
def sgm (α η : Nat → Bool) : Nat → Bool := fun u => if u < 32 then α u else η u
def twoP (D : Nat → Bool) (σ1 σ2 : Nat → Bool) (p1 p2 : Pkt) : Prop := ∀ u, u < 104 → if D u = true then p1.bit u = σ1 u ∧ p2.bit u = σ2 u else p1.bit u = p2.bit u

section
variable {ac : ByteArray → List Ru} {ts : List Tr} {gs : List Ru}
theorem img_wit (hok : ∀ t, t ∈ ts → t.ok) {m1 m2 n : Nat} {α1 α2 η1 η2 : Nat → Bool} {yo : Bool}
  (h1 : okZ ts m1 n α1 η1 → okZ ts m2 n α2 η2) (hz : (m1 ≤ n ∧ m2 ≤ n) ∨ (m1 = n + 1 ∧ m2 = n + 1 ∧ α1 n = α2 n)) (hm : min m1 32 = min m2 32) (h0 : agS sSrc m1 n α1 η1 → agS sSrc m2 n α2 η2)
  (hf1 : ∀ t, t ∈ ts → t.k = 3 → (fw1 m1 n α1 η1 → fw1 m2 n α2 η2)) (hf2 : ∀ t, t ∈ ts → t.k = 3 → (fw2 t m1 α1 → fw2 t m2 α2)) (hf3 : ∀ t, t ∈ ts → t.k = 3 → (fw3 t n η1 → fw3 t n η2))
  (hyo : yo = true ↔ ∃ t, t ∈ ts ∧ t.k = 3 ∧ fw3 t n η1)
  (hJ : ((∃ s, s ∈ spA ts ∧ spS n s η1 ∧ spS n s η2) ∧ ∀ p1 p2, p1.ok → p2.ok → twoP (dgB (min m1 32) n yo) (sgm α1 η1) (sgm α2 η2) p1 p2 → Same ac ts gs p1 p2) ∨ ((∀ s, s ∈ spA ts → ¬ spS n s η1) ∧ ∀ p1 p2, p1.ok → p2.ok → twoP (dgB n n false) η1 η2 p1 p2 → Same ac ts gs p1 p2))
  {P1 N1 N2 : Pkt} (hP : P1.ok) (hN1 : N1.ok) (hN2 : N2.ok) (hPa : ∀ u, u < 104 → u < m1 → P1.bit u = α1 u) (hNa : ∀ u, u < 104 → u < n → N1.bit u = η1 u) (hNb : ∀ u, u < 104 → u < n → N2.bit u = η2 u) (hNN : ∀ u, u < 104 → n ≤ u → N1.bit u = N2.bit u)
  (hg : gB gs P1 = true) (hR : N1 ∈ pkSrc ac ts P1) : ∃ P2 : Pkt, P2.ok ∧ (∀ u, u < 104 → u < m2 → P2.bit u = α2 u) ∧ gB gs P2 = true ∧ N2 ∈ pkSrc ac ts P2 := by
 -- what the second side has where both agree on the first
 have full : (∀ u, u < 104 → u < m1 → u < n → α1 u = η1 u) → agS sSrc m2 n α2 η2 ∧ agS sPort m2 n α2 η2 ∧ agS sRest m2 n α2 η2 := fun h => by
  have o := h1 ⟨fun u hu _ hm hn => h u hu hm hn, .inl (fun u hu _ hm hn => h u hu hm hn)⟩
  refine ⟨h0 (fun u hu _ hm hn => h u hu hm hn), ?_, o.1⟩
  rcases o.2 with o | ⟨t, ht, hk⟩
  ·exact o
  ·exact hf1 t ht hk (fun u hu _ hm hn => h u hu hm hn)
 have last : ∀ u, u < 104 → u < m2 → n ≤ u → P1.bit u = N1.bit u → N2.bit u = α2 u := fun u hu hm hn e => by
  rcases hz with ⟨_, h⟩ | ⟨e1, e2, e3⟩
  ·omega
  ·obtain rfl : u = n := by omega
   rw [← hNN u hu (Nat.le_refl _), ← e, hPa u hu (by omega), e3]
 rcases hJ with ⟨⟨s, _, s1, s2⟩, hJ⟩ | ⟨hno, hJ⟩
 case inr =>
  -- the packet itself
  rcases src_cases ac ts hok P1 N1 hR with ⟨rfl, idn⟩ | ⟨t, ht, _, hres, _⟩
  case inr =>
   exfalso
   refine hno _ (res_src ht (hok t ht) hres) (fun u hu hn => ?_)
   rw [← hNa u (by omega) hn]
   refine bit_eq ?_
   rw [field0_iff.2 hu]
   rfl
  have sm : Same ac ts gs N1 N2 := hJ N1 N2 hN1 hN2 (fun u hu => by
   by_cases hn : u < n
   ·rw [if_pos (by unfold dgB; split <;> simp [hn])]
    exact ⟨hNa u hu hn, hNb u hu hn⟩
   ·rw [if_neg (by unfold dgB; split <;> simp [hn])]
    exact hNN u hu (by omega))
  obtain ⟨f0, f1, f2⟩ := full (fun u hu hm hn => by rw [← hPa u hu hm, hNa u hu hn])
  refine ⟨N2, hN2, fun u hu hm => ?_, sm.gB hg, idn N2 sm.s⟩
  by_cases hn : u < n
  ·rw [hNb u hu hn, agS_all f0 f1 f2 hu hm hn]
  ·exact last u hu hm (by omega) rfl
 have srcE : ∀ u, u < 32 → N1.bit u = N2.bit u := fun u hu => by
  by_cases hn : u < n
  ·rw [hNa u (by omega) hn, hNb u (by omega) hn, ← s1 u hu hn, ← s2 u hu hn]
  ·exact hNN u (by omega) (by omega)
 have lt32 : ∀ u, u < 32 → (u < m1 ↔ u < m2) := fun u hu => by
  have a : u < min m1 32 ↔ u < m1 := by rw [Nat.lt_min]; exact ⟨fun h => h.1, fun h => ⟨h, hu⟩⟩
  have b : u < min m2 32 ↔ u < m2 := by rw [Nat.lt_min]; exact ⟨fun h => h.1, fun h => ⟨h, hu⟩⟩
  rw [← a, ← b, hm]
 -- the packet that is found
 have find : ∀ sp : Bool, (∀ u, u < 104 → 32 ≤ u → ¬ (sp = true ∧ fieldOf u = 3) → P1.bit u = N1.bit u) → (sp = true → ∃ t, t ∈ ts ∧ t.k = 3 ∧ (∀ u, u < 104 → fieldOf u = 3 → P1.bit u = (ipP t).bit u) ∧ ∀ u, u < 104 → fieldOf u = 3 → N1.bit u = (opP t).bit u) →
   ∃ P2 : Pkt, P2.ok ∧ (∀ u, u < 104 → u < m2 → P2.bit u = α2 u) ∧ Same ac ts gs P1 P2 ∧ (∀ u, u < 32 → ¬ u < m2 → P2.bit u = P1.bit u) ∧ (∀ u, u < 104 → 32 ≤ u → ¬ (sp = true ∧ fieldOf u = 3) → P2.bit u = N2.bit u) := fun sp hA hB => by
  have bt : ∀ u, u < 104 → (pkB (fun u => if u < 32 then (if u < m2 then α2 u else P1.bit u) else if sp = true ∧ fieldOf u = 3 then P1.bit u else N2.bit u)).bit u = if u < 32 then (if u < m2 then α2 u else P1.bit u) else if sp = true ∧ fieldOf u = 3 then P1.bit u else N2.bit u := fun u hu => pkB_bit _ hu
  have bok := pkB_ok (fun u => if u < 32 then (if u < m2 then α2 u else P1.bit u) else if sp = true ∧ fieldOf u = 3 then P1.bit u else N2.bit u)
  generalize pkB (fun u => if u < 32 then (if u < m2 then α2 u else P1.bit u) else if sp = true ∧ fieldOf u = 3 then P1.bit u else N2.bit u) = P2 at bt bok
  have yoT : sp = true → yo = true := fun hs => by
   obtain ⟨t, ht, hk, _, ho⟩ := hB hs
   exact hyo.2 ⟨t, ht, hk, fun u hu hf hn => by rw [← ho u hu hf, hNa u hu hn]⟩
  have rest : agS sRest m1 n α1 η1 := fun u hu hs hm hn => by
   have hs : (!decide (u < 32) && !decide (fieldOf u = 3)) = true := hs
   simp only [Bool.and_eq_true, Bool.not_eq_true', decide_eq_false_iff_not] at hs
   rw [← hPa u hu hm, ← hNa u hu hn]
   exact hA u hu (by omega) (fun h => hs.2 h.2)
  refine ⟨P2, bok, fun u hu hm => ?_, ?_, fun u hu hm => ?_, fun u hu h32 hs => ?_⟩
  ·rw [bt u hu]
   by_cases h32 : u < 32
   ·rw [if_pos h32, if_pos hm]
   rw [if_neg h32]
   by_cases hs : sp = true ∧ fieldOf u = 3
   ·rw [if_pos hs]
    obtain ⟨t, ht, hk, hi, _⟩ := hB hs.1
    have : fw2 t m1 α1 := fun v hv hf hm' => by rw [← hi v hv hf, hPa v hv hm']
    rw [hi u hu hs.2]
    exact hf2 t ht hk this u hu hs.2 hm
   ·rw [if_neg hs]
    by_cases hn : u < n
    ·rw [hNb u hu hn]
     by_cases h3 : fieldOf u = 3
     ·have hsp : sp ≠ true := fun q => hs ⟨q, h3⟩
      have pa : agS sPort m1 n α1 η1 := fun v hv hf hm' hn' => by
       have hf : fieldOf v = 3 := of_decide_eq_true hf
       rw [← hPa v hv hm', ← hNa v hv hn']
       refine hA v hv ?_ (fun q => hsp q.1)
       rcases Nat.lt_or_ge v 32 with hl | hl
       ·rw [field0_iff.2 hl] at hf; omega
       ·exact hl
      have o := h1 ⟨rest, .inl pa⟩
      rcases o.2 with o | ⟨t, ht, hk⟩
      ·exact (o u hu (decide_eq_true h3) hm hn).symm
      ·exact (hf1 t ht hk pa u hu (decide_eq_true h3) hm hn).symm
     ·have hr : sRest u = true := by unfold sRest; simp [h3]; omega
      have o : okZ ts m2 n α2 η2 := by
       by_cases hsp : sp = true
       ·obtain ⟨t, ht, hk, _⟩ := hB hsp
        exact h1 ⟨rest, .inr ⟨t, ht, hk⟩⟩
       ·refine h1 ⟨rest, .inl (fun v hv hf hm' hn' => ?_)⟩
        have hf : fieldOf v = 3 := of_decide_eq_true hf
        rw [← hPa v hv hm', ← hNa v hv hn']
        refine hA v hv ?_ (fun q => hsp q.1)
        rcases Nat.lt_or_ge v 32 with hl | hl
        ·rw [field0_iff.2 hl] at hf; omega
        ·exact hl
      exact (o.1 u hu hr hm hn).symm
    ·exact last u hu hm (by omega) (hA u hu (by omega) hs)
  ·refine hJ P1 P2 hP bok (fun u hu => ?_)
   rw [bt u hu]
   unfold dgB sgm
   by_cases h32 : u < 32
   ·simp only [if_pos h32]
    by_cases hm' : u < m1
    ·rw [if_pos (decide_eq_true (Nat.lt_min.2 ⟨hm', h32⟩)), if_pos ((lt32 u h32).1 hm')]
     exact ⟨hPa u hu hm', rfl⟩
    ·rw [if_neg (fun q => hm' (Nat.lt_min.1 (of_decide_eq_true q)).1), if_neg (fun q => hm' ((lt32 u h32).2 q))]
   ·simp only [if_neg h32]
    by_cases hs : sp = true ∧ fieldOf u = 3
    ·rw [if_pos hs, if_neg (by simp [yoT hs.1, hs.2])]
    ·rw [if_neg hs]
     have e := hA u hu (by omega) hs
     by_cases hn : u < n
     ·by_cases hy : yo = true ∧ fieldOf u = 3
      ·rw [if_neg (by simp [hy.1, hy.2])]
       obtain ⟨t, ht, hk, h3⟩ := hyo.1 hy.1
       rw [e, hNa u hu hn, hNb u hu hn, ← h3 u hu hy.2 hn, ← hf3 t ht hk h3 u hu hy.2 hn]
      ·rw [if_pos (by
        simp only [hn, decide_true, Bool.true_and, Bool.not_eq_true', Bool.and_eq_false_iff, decide_eq_false_iff_not]
        by_cases q : yo = true
        ·exact .inr (fun q' => hy ⟨q, q'⟩)
        ·exact .inl (by simpa using q))]
       exact ⟨by rw [e, hNa u hu hn], hNb u hu hn⟩
     ·rw [if_neg (by simp [hn])]
      rw [e]; exact hNN u hu (by omega)
  ·rw [bt u (by omega), if_pos hu, if_neg hm]
  ·rw [bt u hu, if_neg (by omega), if_neg hs]
 rcases src_cases ac ts hok P1 N1 hR with ⟨rfl, idn⟩ | ⟨t, ht, hs, hres, hto⟩
 ·obtain ⟨P2, ok2, a2, sm, c1, c2⟩ := find false (fun _ _ _ _ => rfl) (fun h => by cases h)
  obtain ⟨f0, _, _⟩ := full (fun u hu hm hn => by rw [← hPa u hu hm, hNa u hu hn])
  have e : P2 = N2 := pk_bits ok2 hN2 (fun u hu => by
   by_cases h32 : u < 32
   ·by_cases hm' : u < m2
    ·rw [a2 u hu hm']
     by_cases hn : u < n
     ·rw [hNb u hu hn]
      exact f0 u hu (decide_eq_true h32) hm' hn
     ·exact (last u hu hm' (by omega) rfl).symm
    ·rw [c1 u h32 hm']; exact srcE u h32
   ·exact c2 u hu (by omega) (fun h => by cases h.1))
  subst e
  exact ⟨P2, ok2, a2, sm.gB hg, idn P2 sm.s⟩
 ·have toks := hok t ht
  have u0 : ∀ u, u < 32 → fieldOf u = 0 := fun u hu => field0_iff.2 hu
  have ne0 : ∀ u, 32 ≤ u → fieldOf u ≠ 0 := fun u hu q => by have := field0_iff.1 q; omega
  -- a change of the source alone
  have one : ∀ s : Nat, s < 4294967296 → N1 = { P1 with src := s } → (∀ p' : Pkt, resB t p' { p' with src := s }) → ∃ P2 : Pkt, P2.ok ∧ (∀ u, u < 104 → u < m2 → P2.bit u = α2 u) ∧ gB gs P2 = true ∧ N2 ∈ pkSrc ac ts P2 := fun s hs e hrs => by
   obtain ⟨P2, ok2, a2, sm, c1, c2⟩ := find false (fun u hu h32 _ => by
    rw [e]
    refine bit_eq ?_
    rcases field_cases u with h | h | h | h | h
    ·exact absurd h (ne0 u h32)
    all_goals rw [h]; rfl) (fun h => by cases h)
   have en : N2 = { P2 with src := s } := pk_bits hN2 ⟨hs, ok2.h1, ok2.h2, ok2.h3, ok2.h4⟩ (fun u hu => by
    by_cases h32 : u < 32
    ·rw [← srcE u h32, e]
     refine bit_eq ?_
     rw [u0 u h32]
     rfl
    ·rw [← c2 u hu (by omega) (fun h => by cases h.1)]
     refine bit_eq ?_
     rcases field_cases u with h | h | h | h | h
     ·exact absurd h (ne0 u (by omega))
     all_goals rw [h]; rfl)
   exact ⟨P2, ok2, a2, sm.gB hg, hto P2 N2 sm.s (by rw [en]; exact hrs P2)⟩
  rcases hres with ⟨e, rfl⟩ | ⟨e, j, hj, rfl⟩ | ⟨e, e2⟩
  ·exact one t.o toks.o rfl (fun p' => .inl ⟨e, rfl⟩)
  ·exact one (t.lo + j) (by
    have := toks.hi
    rcases toks.kinds with e' | ⟨_, e1, e2⟩ | ⟨e', _⟩ <;> omega) rfl (fun p' => .inr (.inl ⟨e, j, hj, rfl⟩))
  ·have hsap : t.ip = P1.sport := by
    unfold sapB at hs
    simp only [Bool.or_eq_true, Bool.and_eq_true, decide_eq_true_eq] at hs
    rcases hs with (hs | hs) | hs
    ·omega
    ·omega
    ·exact hs.2.2.2
   obtain ⟨P2, ok2, a2, sm, c1, c2⟩ := find true (fun u hu h32 h3 => by
    rw [e2]
    refine bit_eq ?_
    rcases field_cases u with h | h | h | h | h
    ·exact absurd h (ne0 u h32)
    ·rw [h]; rfl
    ·rw [h]; rfl
    ·exact absurd ⟨rfl, h⟩ h3
    ·rw [h]; rfl) (fun _ => ⟨t, ht, e, fun u hu h => bit_eq (by rw [h]; show u32 P1.sport = u32 t.ip; rw [hsap]), fun u hu h => bit_eq (by rw [h, e2]; rfl)⟩)
   have tk := toks.kinds
   have ho3 : 0 ≤ t.op ∧ t.op ≤ 65535 := by
    rcases tk with e' | ⟨e', _⟩ | ⟨_, _, _, h⟩
    ·omega
    ·omega
    ·exact h
   have en : N2 = { P2 with src := t.o, sport := t.op } := pk_bits hN2 ⟨toks.o, ok2.h1, ok2.h2, ho3, ok2.h4⟩ (fun u hu => by
    by_cases h32 : u < 32
    ·rw [← srcE u h32, e2]
     refine bit_eq ?_
     rw [u0 u h32]
     rfl
    ·by_cases h3 : fieldOf u = 3
     ·have l1 : N2.bit u = N1.bit u := by
       by_cases hn : u < n
       ·have f3 : fw3 t n η1 := fun v hv hf hn' => by
         rw [← hNa v hv hn', e2]
         refine bit_eq ?_
         rw [hf]
         rfl
        rw [hNb u hu hn, hNa u hu hn, ← f3 u hu h3 hn, ← hf3 t ht e f3 u hu h3 hn]
       ·exact (hNN u hu (by omega)).symm
      rw [l1, e2]
      refine bit_eq ?_
      rw [h3]
      rfl
     ·rw [← c2 u hu (by omega) (fun h => h3 h.2)]
      refine bit_eq ?_
      rcases field_cases u with h | h | h | h | h
      ·exact absurd h (ne0 u (by omega))
      ·rw [h]; rfl
      ·rw [h]; rfl
      ·exact absurd h h3
      ·rw [h]; rfl)
   exact ⟨P2, ok2, a2, sm.gB hg, hto P2 N2 sm.s (.inr (.inr ⟨e, en⟩))⟩
end
end Go.Proofs.YtdgnbbmgcgfibaaGreatDoor

namespace Go.Proofs.YtdgnbbmgcgfibaaGreatDoor
open Go.RowKit

/-! ### products, told by witnesses -/
def hb (nx : Bool) (d : Nat) : Nat := (d - (if nx = true then 12 else 11)) / 2
theorem hb_iff (nx : Bool) (d u : Nat) : hvar u nx < d ↔ u < hb nx d := by
 unfold hvar hb
 cases nx
 ·simp only [Bool.false_eq_true, if_false]; omega
 ·simp only [if_true]; omega
def nb (nx : Bool) (d : Nat) : Nat := min (hb nx d) 104
theorem nb_iff (nx : Bool) (d : Nat) {u : Nat} (hu : u < 104) : hvar u nx < d ↔ u < nb nx d := by
 rw [hb_iff]; unfold nb; omega
theorem nb_le (nx : Bool) {d e : Nat} (h : d ≤ e) : nb nx d ≤ nb (!nx) e + 1 ∧ nb nx d ≤ 104 ∧ (nx = true → nb nx d ≤ nb (!nx) e) := by
 unfold nb hb
 cases nx
 ·simp only [Bool.not_false, Bool.false_eq_true, if_false, if_true]
  exact ⟨by omega, by omega, fun h => h.elim⟩
 ·simp only [Bool.not_true, Bool.false_eq_true, if_false, if_true]
  exact ⟨by omega, by omega, fun _ => by omega⟩
theorem nb104 (nx : Bool) (d : Nat) : nb nx d ≤ 104 := Nat.min_le_right _ _
def bitsA (nx : Bool) (y : Nat → Bool) : Nat → Bool := fun u => y (hvar u nx)
theorem agr_iff {nx : Bool} {d : Nat} {y : Nat → Bool} {q : Pkt} : agr nx d y q ↔ ∀ u, u < 104 → u < nb nx d → q.bit u = bitsA nx y u :=
 ⟨fun h u hu hm => h u hu ((nb_iff nx d hu).2 hm), fun h u hu hm => h u hu ((nb_iff nx d hu).1 hm)⟩
theorem pkA_mx_bit (nx : Bool) (e : Nat) (y x : Nat → Bool) {u : Nat} (hu : u < 104) : (pkA nx (mxe e y x)).bit u = if u < nb nx e then bitsA nx y u else x (hvar u nx) := by
 rw [pkA_bit _ _ hu]
 unfold mxe bitsA
 by_cases h : hvar u nx < e
 ·rw [if_pos h, if_pos ((nb_iff nx e hu).1 h)]
 ·rw [if_neg h, if_neg (fun q => h ((nb_iff nx e hu).2 q))]
def WitC (R : Pkt → Pkt → Prop) (m1 n1 : Nat) (α1 η1 : Nat → Bool) (m2 n2 : Nat) (α2 η2 : Nat → Bool) : Prop :=
 ∀ P1 Q1 Q2 : Pkt, P1.ok → Q1.ok → Q2.ok → (∀ u, u < 104 → u < m1 → P1.bit u = α1 u) → (∀ u, u < 104 → u < n1 → Q1.bit u = η1 u) → (∀ u, u < 104 → u < n2 → Q2.bit u = η2 u) → (∀ u, u < 104 → n1 ≤ u → n2 ≤ u → Q1.bit u = Q2.bit u) → R P1 Q1 → ∃ P2 : Pkt, P2.ok ∧ (∀ u, u < 104 → u < m2 → P2.bit u = α2 u) ∧ R P2 Q2
theorem Listed.wit {M : Mgr} (hn : M.n = 220) (hp : M.Plain) (nx : Bool) {F : Bfn} (R : Pkt → Pkt → Prop) (hF : ∀ w, F w = true ↔ R (pkA nx w) (pkA (!nx) w)) {N : Nat} (c : Nat → Nat → (Nat → Bool) → (Nat → Bool) → Nat)
  (hlt : ∀ m n α η, m ≤ n + 1 → n ≤ 104 → c m n α η < N) (hw : ∀ m1 n1 α1 η1 m2 n2 α2 η2, m1 ≤ n1 + 1 → n1 ≤ 104 → (nx = true → m1 ≤ n1) → m2 ≤ n2 + 1 → n2 ≤ 104 → (nx = true → m2 ≤ n2) → c m1 n1 α1 η1 = c m2 n2 α2 η2 → n1 = n2 ∧ WitC R m1 n1 α1 η1 m2 n2 α2 η2) : Listed (M.ProF (hvK nx 104) F) N := by
 have key : ∀ (d' d : Nat) (a' a : Nat → Bool) (x : Nat → Bool), exQ (hvK nx 104) (fun y => F (M.mix d' a' y)) (M.mix d a x) = true ↔ ∃ q : Pkt, q.ok ∧ agr nx d' a' q ∧ R q (pkA (!nx) (mxe (max d' d) (gv d' a' a) x)) := fun d' d a' a x => by
  rw [exQ_iff]
  constructor
  ·rintro ⟨b, h⟩
   refine ⟨pkA nx (M.mix d' a' (ovr (hvK nx 104) b (M.mix d a x))), pkA_ok _ _, (pro_free hn hp nx d' a' (M.mix d a x) (pkA_ok _ _)).1 ⟨b, rfl⟩, ?_⟩
   rw [← pro_kept hn hp nx d' d a' a b x]
   exact (hF _).1 h
  ·rintro ⟨q, hq, e, t⟩
   obtain ⟨b, hb⟩ := (pro_free hn hp nx d' a' (M.mix d a x) hq).2 e
   exact ⟨b, (hF _).2 (by rw [hb, pro_kept hn hp nx d' d a' a b x]; exact t)⟩
 refine Listed.code (A := (Nat × Nat) × ((Nat → Bool) × (Nat → Bool))) (P := fun _ => True) (fun z => fun x => exQ (hvK nx 104) (fun y => F (M.mix z.1.1 z.2.1 y)) (M.mix z.1.2 z.2.2 x))
  (fun z => c (nb nx z.1.1) (nb (!nx) (max z.1.1 z.1.2)) (bitsA nx z.2.1) (bitsA (!nx) (gv z.1.1 z.2.1 z.2.2))) (fun z _ => ?_) (fun z z' _ _ e => ?_) (fun G hG => ?_)
 ·obtain ⟨h1, h2, h3⟩ := nb_le nx (Nat.le_max_left z.1.1 z.1.2)
  exact hlt _ _ _ _ h1 (nb104 _ _)
 ·have go : ∀ z z' : (Nat × Nat) × ((Nat → Bool) × (Nat → Bool)), c (nb nx z.1.1) (nb (!nx) (max z.1.1 z.1.2)) (bitsA nx z.2.1) (bitsA (!nx) (gv z.1.1 z.2.1 z.2.2)) = c (nb nx z'.1.1) (nb (!nx) (max z'.1.1 z'.1.2)) (bitsA nx z'.2.1) (bitsA (!nx) (gv z'.1.1 z'.2.1 z'.2.2)) → ∀ x, (∃ q : Pkt, q.ok ∧ agr nx z.1.1 z.2.1 q ∧ R q (pkA (!nx) (mxe (max z.1.1 z.1.2) (gv z.1.1 z.2.1 z.2.2) x))) → ∃ q : Pkt, q.ok ∧ agr nx z'.1.1 z'.2.1 q ∧ R q (pkA (!nx) (mxe (max z'.1.1 z'.1.2) (gv z'.1.1 z'.2.1 z'.2.2) x)) := fun z z' e x => by
   obtain ⟨h1, h2, h3⟩ := nb_le nx (Nat.le_max_left z.1.1 z.1.2)
   obtain ⟨h1', h2', h3'⟩ := nb_le nx (Nat.le_max_left z'.1.1 z'.1.2)
   obtain ⟨en, w⟩ := hw _ _ _ _ _ _ _ _ h1 (nb104 _ _) h3 h1' (nb104 _ _) h3' e
   rintro ⟨q, hq, ha, hr⟩
   obtain ⟨q2, ok2, ha2, hr2⟩ := w q _ (pkA (!nx) (mxe (max z'.1.1 z'.1.2) (gv z'.1.1 z'.2.1 z'.2.2) x)) hq (pkA_ok _ _) (pkA_ok _ _) (agr_iff.1 ha) (fun u hu hn => by rw [pkA_mx_bit _ _ _ _ hu, if_pos hn]) (fun u hu hn => by rw [pkA_mx_bit _ _ _ _ hu, if_pos hn]) (fun u hu hn hn' => by rw [pkA_mx_bit _ _ _ _ hu, pkA_mx_bit _ _ _ _ hu, if_neg (by omega), if_neg (by omega)]) hr
   exact ⟨q2, ok2, agr_iff.2 ha2, hr2⟩
  funext x
  rw [Bool.eq_iff_iff, key, key]
  exact ⟨go z z' e x, go z' z e.symm x⟩
 ·obtain ⟨d', a', d, a, rfl⟩ := hG
  exact ⟨((d', d), (a', a)), trivial, rfl⟩
theorem PSt.wit (nx : Bool) {F : Bfn} (R : Pkt → Pkt → Prop) (hF : ∀ w, F w = true ↔ R (pkA nx w) (pkA (!nx) w)) {s : Nat} (c : Nat → (Nat → Bool) → Nat)
  (hlt : ∀ n η, n ≤ 104 → c n η < s) (hw : ∀ n η1 η2, n ≤ 104 → c n η1 = c n η2 → WitC R 0 n (fun _ => false) η1 0 n (fun _ => false) η2) : PSt 220 (exQ (hvK nx 104) F) s := fun M hn hp => by
 have ex : ∀ a, exQ (hvK nx 104) F a = true ↔ ∃ q : Pkt, q.ok ∧ R q (pkA (!nx) a) := fun a => by
  rw [exQ_iff]
  have kept : ∀ b, pkA (!nx) (ovr (hvK nx 104) b a) = pkA (!nx) a := fun b => pkA_congr (fun u hu => by unfold ovr; rw [if_neg hv_not])
  constructor
  ·rintro ⟨b, h⟩
   have := (hF _).1 h
   rw [kept] at this
   exact ⟨_, pkA_ok _ _, this⟩
  ·rintro ⟨q, hq, h⟩
   refine ⟨fun v => q.bit ((v - 12) / 2), (hF _).2 ?_⟩
   rw [kept, (pkA_iff hq nx (ovr (hvK nx 104) (fun v => q.bit ((v - 12) / 2)) a)).2 (fun u hu => by
    unfold ovr
    rw [if_pos (hv_mem hu)]
    show q.bit u = q.bit ((hvar u nx - 12) / 2)
    congr 1
    unfold hvar
    cases nx <;> simp <;> omega)]
   exact h
 refine ⟨fun d a => c (nb (!nx) d) (bitsA (!nx) a), fun d a => hlt _ _ (nb104 _ _), fun d a a' e b => ?_⟩
 have mm : ∀ x : Nat → Bool, pkA (!nx) (M.mix d x b) = pkA (!nx) (mxe d x b) := fun x => pkA_congr (fun u hu => by
  have hlv := hp (hvar u (!nx)) (by rw [hn]; exact hvar_lt hu _)
  unfold Mgr.mix mxe
  rw [hlv])
 have go : ∀ a a' : Nat → Bool, c (nb (!nx) d) (bitsA (!nx) a) = c (nb (!nx) d) (bitsA (!nx) a') → (∃ q : Pkt, q.ok ∧ R q (pkA (!nx) (mxe d a b))) → ∃ q : Pkt, q.ok ∧ R q (pkA (!nx) (mxe d a' b)) := fun a a' e => by
  rintro ⟨q, hq, h⟩
  obtain ⟨q2, ok2, _, h2⟩ := hw _ _ _ (nb104 _ _) e q _ (pkA (!nx) (mxe d a' b)) hq (pkA_ok _ _) (pkA_ok _ _) (fun u _ h => absurd h (Nat.not_lt_zero _)) (fun u hu hn => by rw [pkA_mx_bit _ _ _ _ hu, if_pos hn]) (fun u hu hn => by rw [pkA_mx_bit _ _ _ _ hu, if_pos hn]) (fun u hu hn hn' => by rw [pkA_mx_bit _ _ _ _ hu, pkA_mx_bit _ _ _ _ hu, if_neg (by omega), if_neg (by omega)]) h
  exact ⟨q2, ok2, h2⟩
 rw [Bool.eq_iff_iff, ex, ex, mm, mm]
 exact ⟨go a a' e, go a' a e.symm⟩
def lvC (B0 B1 n c : Nat) : Nat := if n ≤ 72 then n * B0 + c else 73 * B0 + ((n - 73) * B1 + c)
def lvB (B0 B1 n : Nat) : Nat := if n ≤ 72 then B0 else B1
theorem lvC_lt {B0 B1 n c : Nat} (hn : n ≤ 104) (hc : c < lvB B0 B1 n) : lvC B0 B1 n c < 73 * B0 + 32 * B1 := by
 unfold lvC
 unfold lvB at hc
 by_cases h : n ≤ 72
 ·rw [if_pos h] at hc ⊢
  have : n * B0 ≤ 72 * B0 := Nat.mul_le_mul_right _ h
  omega
 ·rw [if_neg h] at hc ⊢
  have : (n - 73) * B1 ≤ 31 * B1 := Nat.mul_le_mul_right _ (by omega)
  omega
theorem lvC_eq {B0 B1 n c n' c' : Nat} (hc : c < lvB B0 B1 n) (hc' : c' < lvB B0 B1 n') (e : lvC B0 B1 n c = lvC B0 B1 n' c') : n = n' ∧ c = c' := by
 unfold lvC at e
 unfold lvB at hc hc'
 by_cases h : n ≤ 72
 ·rw [if_pos h] at hc e
  by_cases h' : n' ≤ 72
  ·rw [if_pos h'] at hc' e
   exact code2 hc hc' e
  ·rw [if_neg h'] at e
   have : n * B0 ≤ 72 * B0 := Nat.mul_le_mul_right _ h
   omega
 ·rw [if_neg h] at hc e
  by_cases h' : n' ≤ 72
  ·rw [if_pos h'] at hc' e
   have : n' * B0 ≤ 72 * B0 := Nat.mul_le_mul_right _ h'
   omega
  ·rw [if_neg h'] at hc' e
   have e' : (n - 73) * B1 + c = (n' - 73) * B1 + c' := by omega
   obtain ⟨e1, e2⟩ := code2 hc hc' e'
   exact ⟨by omega, e2⟩

/-! ### truth values of a list -/
def bmk {A : Type} (φ : A → Bool) : List A → Nat
 | [] => 0
 | q :: l => 2 * bmk φ l + if φ q = true then 1 else 0
theorem bmk_lt {A : Type} (φ : A → Bool) : ∀ l : List A, bmk φ l < 2 ^ l.length
 | [] => Nat.one_pos
 | q :: l => by
  have := bmk_lt φ l
  simp only [bmk, List.length_cons, Nat.pow_succ]
  split <;> omega
theorem bmk_same {A : Type} {φ ψ : A → Bool} : ∀ l : List A, bmk φ l = bmk ψ l → ∀ q, q ∈ l → φ q = ψ q
 | [], _, q, hq => by cases hq
 | p :: l, h, q, hq => by
  simp only [bmk] at h
  have e1 : bmk φ l = bmk ψ l := by split at h <;> split at h <;> omega
  rcases List.mem_cons.1 hq with rfl | hq
  ·rw [e1] at h
   cases h1 : φ q <;> cases h2 : ψ q <;> simp [h1, h2] at h ⊢
  ·exact bmk_same l e1 q hq

/-! ### rules and translations together -/
def Ent.sca : Ent → List Bfn
 | .stat i _ => [rgF 0 false i i]
 | .fwd i pr ip _ _ => [allF [rgF 0 false i i, rgF 2 false pr pr, rgF 3 false ip ip]]
 | .pool _ _ _ _ => []
theorem Ent.sca_cube {e : Ent} (h : e.ok) : ∀ F, F ∈ e.sca → IsCube F := fun F hF => by
 refine Ent.scu_cube h F ?_
 cases e with
 | stat i o => exact List.mem_cons.2 (.inl (List.mem_singleton.1 hF))
 | pool => cases hF
 | fwd i pr ip o op => exact List.mem_cons.2 (.inl (List.mem_singleton.1 hF))
theorem sapp_pk (ac : ByteArray → List Ru) {t : Tr} (ht : t.ok) (a : Nat → Bool) : (t.ent ac).sapp a = sapB ac t (pkA false a) := by
 have hp := pkA_ok false a
 have rd : (t.ent ac).sapp a = (t.ent ac).sapp (ePQ (pkA false a) (pkA true a)) := by
  have r : ∀ k nx lo hi, k < 5 → rgF k nx lo hi a = rgF k nx lo hi (ePQ (pkA false a) (pkA true a)) := fun k nx lo hi hk => rg12 hk nx lo hi a _ (fun v h1 h2 => (ePQ_pk a h1 h2).symm)
  cases (t.ent ac) with
  | stat i o => exact r 0 _ _ _ (by omega)
  | pool any rs lo hi =>
   cases any
   ·exact aclF_rd rs a _ (fun v h1 h2 => (ePQ_pk a h1 h2).symm)
   ·rfl
  | fwd i pr ip o op => simp only [Ent.sapp, allF]; rw [r 0 _ _ _ (by omega), r 2 _ _ _ (by omega), r 3 _ _ _ (by omega)]
 rw [rd]
 generalize pkA false a = p at hp
 have hq := pkA_ok true a
 generalize pkA true a = q at hq
 unfold sapB
 rcases ht.kinds with e | ⟨e, e1, e2⟩ | ⟨e, e1, e2, e3⟩
 ·have E : t.ent ac = .stat t.i t.o := by unfold Tr.ent; rw [if_pos e]
  rw [E, Bool.eq_iff_iff]
  show rgF 0 false t.i t.i (ePQ p q) = true ↔ _
  rw [rg_enc hp hq (by omega)]
  show t.i ≤ p.src ∧ p.src ≤ t.i ↔ _
  simp [e]
  omega
 ·have E : t.ent ac = .pool t.nm.toList.isEmpty (ac t.nm) t.lo t.hi := by unfold Tr.ent; rw [if_neg (by omega), if_pos e]
  rw [E]
  have A : (Ent.pool t.nm.toList.isEmpty (ac t.nm) t.lo t.hi).sapp (ePQ p q) = pmB ac t.nm p := by
   show (if t.nm.toList.isEmpty = true then fun _ => true else aclF (ac t.nm)) (ePQ p q) = (t.nm.toList.isEmpty || aclB (ac t.nm) p)
   cases t.nm.toList.isEmpty
   ·rw [if_neg (by decide), acl_enc hp hq, Bool.false_or]
   ·rw [if_pos rfl, Bool.true_or]
  rw [A]
  simp [e]
 ·have E : t.ent ac = .fwd t.i t.pr.toNat t.ip.toNat t.o t.op.toNat := by unfold Tr.ent; rw [if_neg (by omega), if_neg (by omega)]
  rw [E, Bool.eq_iff_iff]
  have u2 := u32_of (x := p.proto) ⟨hp.h2.1, by have := hp.h2.2; omega⟩
  have u4 := u32_of (x := p.sport) ⟨hp.h3.1, by have := hp.h3.2; omega⟩
  show (rgF 0 false t.i t.i (ePQ p q) && (rgF 2 false t.pr.toNat t.pr.toNat (ePQ p q) && (rgF 3 false t.ip.toNat t.ip.toNat (ePQ p q) && true))) = true ↔ _
  rw [Bool.and_true, Bool.and_eq_true, Bool.and_eq_true, rg_enc hp hq (by omega), rg_enc hp hq (by omega), rg_enc hp hq (by omega)]
  show (t.i ≤ p.src ∧ p.src ≤ t.i) ∧ (t.pr.toNat ≤ u32 p.proto ∧ u32 p.proto ≤ t.pr.toNat) ∧ (t.ip.toNat ≤ u32 p.sport ∧ u32 p.sport ≤ t.ip.toNat) ↔ _
  simp [e]
  omega
theorem ru_pk (x : Ru) (a : Nat → Bool) : x.F a = ruB x (pkA false a) := by
 rw [x.F_rd a (ePQ (pkA false a) (pkA true a)) (fun v h1 h2 => (ePQ_pk a h1 h2).symm), ru_enc (pkA_ok _ _) (pkA_ok _ _)]
def flL (ts : List Tr) : List (Tr × Nat) := (ts.filter fun t => decide (t.k = 3)).flatMap fun t => [(t, 0), (t, 1), (t, 2)]
theorem mem_flL {ts : List Tr} {t : Tr} (ht : t ∈ ts) (hk : t.k = 3) {i : Nat} (hi : i < 3) : (t, i) ∈ flL ts :=
 List.mem_flatMap.2 ⟨t, List.mem_filter.2 ⟨ht, decide_eq_true hk⟩, by
  rcases (show i = 0 ∨ i = 1 ∨ i = 2 by omega) with rfl | rfl | rfl <;> simp⟩
theorem w_le (ac : ByteArray → List Ru) : ∀ ts : List Tr, (∀ t, t ∈ ts → t.ok) → (∀ t, t ∈ ts → (ac t.nm).length ≤ 4) → ((ts.map (Tr.ent ac)).flatMap Ent.rus).length + ((ts.map (Tr.ent ac)).flatMap Ent.sca).length + (flL ts).length ≤ 4 * ts.length
 | [], _, _ => Nat.le_refl _
 | t :: l, hok, hac => by
  have ih := w_le ac l (fun x hx => hok x (List.mem_cons_of_mem _ hx)) (fun x hx => hac x (List.mem_cons_of_mem _ hx))
  have ha := hac t (List.mem_cons_self ..)
  have hk := (hok t (List.mem_cons_self ..)).kinds
  unfold flL at ih ⊢
  simp only [List.map_cons, List.flatMap_cons, List.length_append, List.length_cons, List.filter_cons]
  rcases hk with e | ⟨e, _⟩ | ⟨e, _⟩
  ·have E : t.ent ac = .stat t.i t.o := by unfold Tr.ent; rw [if_pos e]
   rw [E, if_neg (by simp [e])]
   show 0 + _ + (1 + _) + _ ≤ _
   omega
  ·have E : t.ent ac = .pool t.nm.toList.isEmpty (ac t.nm) t.lo t.hi := by unfold Tr.ent; rw [if_neg (by omega), if_pos e]
   rw [E, if_neg (by simp [e])]
   show (ac t.nm).length + _ + (0 + _) + _ ≤ _
   omega
  ·have E : t.ent ac = .fwd t.i t.pr.toNat t.ip.toNat t.o t.op.toNat := by unfold Tr.ent; rw [if_neg (by omega), if_neg (by omega)]
   rw [E, if_pos (by simp [e])]
   simp only [List.flatMap_cons, List.length_append, List.length_cons, List.length_nil]
   show 0 + _ + (1 + _) + _ ≤ _
   omega
theorem KR_mono (low : Bool) {n m : Nat} (h : n ≤ m) : KR low n ≤ KR low m := by unfold KR; split <;> omega
section
variable {ac : ByteArray → List Ru} {ts : List Tr} {gs : List Ru}
theorem same_code (hok : ∀ t, t ∈ ts → t.ok) (D : Nat → Bool) {m3 m4 : Nat} (d3 : m3 ≤ 16 ∧ ∀ b, b < 16 → (D (72 + b) = true ↔ b < m3)) (d4 : m4 ≤ 16 ∧ ∀ b, b < 16 → (D (88 + b) = true ↔ b < m4)) (h : m3 = 0 ∨ m3 = 16 ∨ m4 = 0) (low : Bool) (hlow : low = true → m3 = 0 ∧ m4 = 0) :
  ∃ st : (Nat → Bool) → Nat, (∀ σ, st σ < KR low (gs ++ (ts.map (Tr.ent ac)).flatMap Ent.rus).length * 2 ^ (gs ++ (ts.map (Tr.ent ac)).flatMap Ent.rus).length * 2 ^ ((ts.map (Tr.ent ac)).flatMap Ent.sca).length) ∧
   ∀ σ1 σ2, st σ1 = st σ2 → ∀ p1 p2 : Pkt, p1.ok → p2.ok → twoP D σ1 σ2 p1 p2 → Same ac ts gs p1 p2 := by
 obtain ⟨D', hD⟩ : ∃ D' : Nat → Bool, D' = fun v => decide (12 ≤ v) && decide ((v - 12) % 2 = 0) && D ((v - 12) / 2) := ⟨_, rfl⟩
 have hDb : ∀ u, D' (hvar u false) = D u := fun u => by
  rw [hD]
  unfold hvar
  have e1 : (12 + 2 * u + (if false = true then 1 else 0) - 12) / 2 = u := by simp
  have e2 : (12 + 2 * u + (if false = true then 1 else 0) - 12) % 2 = 0 := by simp
  simp only [e1, e2]
  simp
 have w3 : fw 3 = 16 := rfl
 have w4 : fw 4 = 16 := rfl
 have v3 : ff 3 = 72 := rfl
 have v4 : ff 4 = 88 := rfl
 have p3 : PreD D' 3 false m3 := by
  refine ⟨by rw [w3]; exact d3.1, fun b hb => ?_⟩
  rw [w3] at hb
  unfold fvar
  rw [hDb, v3]
  exact d3.2 b hb
 have p4 : PreD D' 4 false m4 := by
  refine ⟨by rw [w4]; exact d4.1, fun b hb => ?_⟩
  rw [w4] at hb
  unfold fvar
  rw [hDb, v4]
  exact d4.2 b hb
 clear w3 w4 v3 v4
 have hes : ∀ x, x ∈ (ts.map (Tr.ent ac)).flatMap Ent.sca → IsCube x := fun x hx => by
  obtain ⟨e, he, hx⟩ := List.mem_flatMap.1 hx
  obtain ⟨t, ht, rfl⟩ := List.mem_map.1 he
  -- cubes need no bound on the rules
  have k := (hok t ht).kinds
  have ok0 : (t.ent (fun _ => [])).ok := Tr.ent_ok (hok t ht) (Nat.zero_le _)
  rcases k with e | ⟨e, _⟩ | ⟨e, _⟩
  ·have E : ∀ f, t.ent f = .stat t.i t.o := fun f => by unfold Tr.ent; rw [if_pos e]
   rw [E] at hx ok0
   exact Ent.sca_cube ok0 x hx
  ·have E : t.ent ac = .pool t.nm.toList.isEmpty (ac t.nm) t.lo t.hi := by unfold Tr.ent; rw [if_neg (by omega), if_pos e]
   rw [E] at hx
   cases hx
  ·have E : ∀ f, t.ent f = .fwd t.i t.pr.toNat t.ip.toNat t.o t.op.toNat := fun f => by unfold Tr.ent; rw [if_neg (by omega), if_neg (by omega)]
   rw [E] at hx ok0
   exact Ent.sca_cube ok0 x hx
 obtain ⟨st, s1, s2⟩ := (JA.rulesE p3 p4 h (gs ++ (ts.map (Tr.ent ac)).flatMap Ent.rus) low hlow).app (JA.cubes (D := D') hes)
 refine ⟨fun σ => st (fun v => σ ((v - 12) / 2)), fun σ => s1 _, fun σ1 σ2 e p1 p2 ok1 ok2 h2 => ?_⟩
 have back : ∀ u : Nat, (hvar u false - 12) / 2 = u := fun u => by unfold hvar; simp
 have c1 : pkA false (mxD D' (fun v => σ1 ((v - 12) / 2)) (ePQ p2 p2)) = p1 := (pkA_iff ok1 false _).2 (fun u hu => by
  have := h2 u hu
  unfold mxD
  rw [hDb]
  by_cases hd : D u = true
  ·rw [if_pos hd] at this ⊢
   show p1.bit u = σ1 ((hvar u false - 12) / 2)
   rw [back]; exact this.1
  ·rw [if_neg hd] at this ⊢
   rw [this]
   unfold ePQ
   rw [gL_at _ (hvar_lt hu false), enc_bit]
   rfl)
 have c2 : pkA false (mxD D' (fun v => σ2 ((v - 12) / 2)) (ePQ p2 p2)) = p2 := (pkA_iff ok2 false _).2 (fun u hu => by
  have := h2 u hu
  unfold mxD
  rw [hDb]
  by_cases hd : D u = true
  ·rw [if_pos hd] at this ⊢
   show p2.bit u = σ2 ((hvar u false - 12) / 2)
   rw [back]; exact this.2
  ·rw [if_neg hd] at this ⊢
   unfold ePQ
   rw [gL_at _ (hvar_lt hu false), enc_bit]
   rfl)
 have ru : ∀ x, x ∈ gs ++ (ts.map (Tr.ent ac)).flatMap Ent.rus → ruB x p1 = ruB x p2 := fun x hx => by
  have := s2 _ _ e x.F (List.mem_append.2 (.inl (List.mem_map.2 ⟨x, hx, rfl⟩))) (ePQ p2 p2)
  rw [ru_pk, ru_pk, c1, c2] at this
  exact this
 refine ⟨fun x hx => ru x (List.mem_append.2 (.inl hx)), fun t ht => ?_⟩
 have z1 := sapp_pk ac (hok t ht) (mxD D' (fun v => σ1 ((v - 12) / 2)) (ePQ p2 p2))
 have z2 := sapp_pk ac (hok t ht) (mxD D' (fun v => σ2 ((v - 12) / 2)) (ePQ p2 p2))
 rw [c1] at z1
 rw [c2] at z2
 rw [← z1, ← z2]
 clear z1 z2
 have hm : t.ent ac ∈ ts.map (Tr.ent ac) := List.mem_map.2 ⟨t, ht, rfl⟩
 have cu : ∀ F, F ∈ (t.ent ac).sca → F (mxD D' (fun v => σ1 ((v - 12) / 2)) (ePQ p2 p2)) = F (mxD D' (fun v => σ2 ((v - 12) / 2)) (ePQ p2 p2)) := fun F hF => s2 _ _ e F (List.mem_append.2 (.inr (List.mem_flatMap.2 ⟨_, hm, hF⟩))) _
 have rr : ∀ x, x ∈ (t.ent ac).rus → x.F (mxD D' (fun v => σ1 ((v - 12) / 2)) (ePQ p2 p2)) = x.F (mxD D' (fun v => σ2 ((v - 12) / 2)) (ePQ p2 p2)) := fun x hx => s2 _ _ e x.F (List.mem_append.2 (.inl (List.mem_map.2 ⟨x, List.mem_append.2 (.inr (List.mem_flatMap.2 ⟨_, hm, hx⟩)), rfl⟩))) _
 generalize mxD D' (fun v => σ1 ((v - 12) / 2)) (ePQ p2 p2) = z1 at cu rr
 generalize mxD D' (fun v => σ2 ((v - 12) / 2)) (ePQ p2 p2) = z2 at cu rr
 generalize t.ent ac = en at cu rr
 cases en with
 | stat i o => exact cu _ (List.mem_singleton.2 rfl)
 | pool any rs lo hi =>
  cases any
  ·exact aclF_det rs _ _ rr
  ·rfl
 | fwd i pr ip o op => exact cu _ (List.mem_singleton.2 rfl)
end
end Go.Proofs.YtdgnbbmgcgfibaaGreatDoor
