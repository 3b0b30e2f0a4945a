/-
 Plain mathematics: the translations of a router as relations, and how many cofactors these have.
-/
import Derived.Test.YtdgnbbmgcgfibaaGreatDoorHsm
import Derived.Test.YtdgnbbmgcgfibaaGreatDoorHpm
import Derived.Test.YtdgnbbmgcgfibaaGreatDoorTb
import Derived.Test.YtdgnbbmgcgfibaaGreatDoorXe
import Derived.RangeFuncNested
import Derived.RangeFuncBound
import Derived.RangeFuncCalls
import Derived.RangeFuncLeaves
import Derived.RangeFuncBox
import Derived.Shelf.Abstract
import Derived.Shelf.RegionOpen
import Derived.WalkKit
import Derived.OwnWalkIn
import Derived.TacticsInMore
import Derived.LoopNIn
import Derived.LoopIn
namespace Go.Proofs.YtdgnbbmgcgfibaaGreatDoor

def mxD (D : Nat → Bool) (a b : Nat → Bool) : Nat → Bool := fun v => if D v = true then a v else b v

def JA (D : Nat → Bool) (fs : List Bfn) (s : Nat) : Prop := ∃ st : (Nat → Bool) → Nat, (∀ a, st a < s) ∧ ∀ a a', st a = st a' → ∀ F, F ∈ fs → ∀ b, F (mxD D a b) = F (mxD D a' b)

section
variable {D : Nat → Bool} {fs gs : List Bfn} {s t : Nat}
theorem JA.mono (h : JA D fs s) (hs : s ≤ t) : JA D fs t := by
 obtain ⟨st, h1, h2⟩ := h
 exact ⟨st, fun a => Nat.lt_of_lt_of_le (h1 a) hs, h2⟩
theorem JA.app (h : JA D fs s) (g : JA D gs t) : JA D (fs ++ gs) (s * t) := by
 obtain ⟨st, h1, h2⟩ := h
 obtain ⟨su, g1, g2⟩ := g
 refine ⟨fun a => st a * t + su a, fun a => ?_, fun a a' e F hF b => ?_⟩
 ·have a1 := h1 a
  have a2 := g1 a
  have : (st a + 1) * t ≤ s * t := Nat.mul_le_mul_right t a1
  rw [Nat.add_mul] at this
  dsimp only
  omega
 ·obtain ⟨e1, e2⟩ := code2 (g1 a) (g1 a') e
  rcases List.mem_append.1 hF with hF | hF
  ·exact h2 a a' e1 F hF b
  ·exact g2 a a' e2 F hF b
theorem JA.fns (h : JA D fs s) (hd : ∀ G, G ∈ gs → ∀ a a' : Nat → Bool, (∀ F, F ∈ fs → F a = F a') → G a = G a') : JA D gs s := by
 obtain ⟨st, h1, h2⟩ := h
 exact ⟨st, h1, fun a a' e G hG b => hd G hG _ _ (fun F hF => h2 a a' e F hF b)⟩
theorem JA.none (h : ∀ F, F ∈ fs → ∀ a b, F (mxD D a b) = F b) : JA D fs 1 := ⟨fun _ => 0, fun _ => Nat.one_pos, fun a a' _ F hF b => by rw [h F hF, h F hF]⟩
theorem vec {A : Type} (f : A → (Nat → Bool) → Bool) : ∀ l : List A, ∃ st : (Nat → Bool) → Nat, (∀ a, st a < 2 ^ l.length) ∧ ∀ a a', st a = st a' → ∀ x, x ∈ l → f x a = f x a'
 | [] => ⟨fun _ => 0, fun _ => by simp, fun _ _ _ x h => by cases h⟩
 | x :: l => by
  obtain ⟨st, h1, h2⟩ := vec f l
  refine ⟨fun a => 2 * st a + if f x a = true then 1 else 0, fun a => ?_, fun a a' e y hy => ?_⟩
  ·have := h1 a
   simp only [List.length_cons, Nat.pow_succ]
   split <;> omega
  ·dsimp only at e
   have e1 : st a = st a' := by split at e <;> split at e <;> omega
   rcases List.mem_cons.1 hy with rfl | hy
   ·rw [e1] at e
    cases h : f y a <;> cases h' : f y a' <;> simp [h, h'] at e ⊢
   ·exact h2 a a' e1 y hy
theorem JA.code (p : (Nat → Bool) → Nat) {m : Nat} (hp : ∀ a, p a < m) (al : Bfn → (Nat → Bool) → Bool) (h : ∀ F, F ∈ fs → ∀ a a', p a = p a' → al F a = al F a' → ∀ b, F (mxD D a b) = F (mxD D a' b)) : JA D fs (m * 2 ^ fs.length) := by
 obtain ⟨st, h1, h2⟩ := vec al fs
 refine ⟨fun a => p a * 2 ^ fs.length + st a, fun a => ?_, fun a a' e F hF b => ?_⟩
 ·have a1 := hp a
  have a2 := h1 a
  have : (p a + 1) * 2 ^ fs.length ≤ m * 2 ^ fs.length := Nat.mul_le_mul_right _ a1
  rw [Nat.add_mul] at this
  dsimp only
  omega
 ·obtain ⟨e1, e2⟩ := code2 (h1 a) (h1 a') e
  exact h F hF a a' e1 (h2 a a' e2 F hF) b
theorem JA.bits (al : Bfn → (Nat → Bool) → Bool) (h : ∀ F, F ∈ fs → ∀ a a', al F a = al F a' → ∀ b, F (mxD D a b) = F (mxD D a' b)) : JA D fs (2 ^ fs.length) :=
 (JA.code (fun _ => 0) (m := 1) (fun _ => Nat.one_pos) al (fun F hF a a' _ e b => h F hF a a' e b)).mono (by omega)
theorem JA.done (h : ∀ F, F ∈ fs → ∀ a b, F (mxD D a b) = F a) : JA D fs (2 ^ fs.length) :=
 JA.bits (fun F a => F a) (fun F hF a a' e b => by rw [h F hF, h F hF]; exact e)
end

/-! ### cubes -/
def cuF (l : List (Nat × Bool)) : Bfn := fun a => l.all fun x => a x.1 == x.2
theorem cuF_iff (l : List (Nat × Bool)) (a : Nat → Bool) : cuF l a = true ↔ ∀ x, x ∈ l → a x.1 = x.2 := by
 unfold cuF
 simp [List.all_eq_true]
theorem cuF_mx (D : Nat → Bool) (l : List (Nat × Bool)) (a b : Nat → Bool) : cuF l (mxD D a b) = (cuF (l.filter fun x => D x.1) a && cuF (l.filter fun x => !D x.1) b) := by
 rw [Bool.eq_iff_iff, Bool.and_eq_true, cuF_iff, cuF_iff, cuF_iff]
 constructor
 ·intro h
  refine ⟨fun x hx => ?_, fun x hx => ?_⟩
  ·obtain ⟨h1, h2⟩ := List.mem_filter.1 hx
   have := h x h1
   unfold mxD at this
   rwa [if_pos (by simpa using h2)] at this
  ·obtain ⟨h1, h2⟩ := List.mem_filter.1 hx
   have := h x h1
   unfold mxD at this
   rwa [if_neg (by simpa using h2)] at this
 ·rintro ⟨h1, h2⟩ x hx
  unfold mxD
  by_cases hD : D x.1 = true
  ·rw [if_pos hD]; exact h1 x (List.mem_filter.2 ⟨hx, by simpa using hD⟩)
  ·rw [if_neg hD]; exact h2 x (List.mem_filter.2 ⟨hx, by simpa using hD⟩)
def IsCube (F : Bfn) : Prop := ∃ l, F = cuF l
theorem JA.cubes {D : Nat → Bool} {fs : List Bfn} (h : ∀ F, F ∈ fs → IsCube F) : JA D fs (2 ^ fs.length) := by
 classical
 refine JA.bits (fun F a => if h : IsCube F then cuF (h.choose.filter fun x => D x.1) a else false) (fun F hF a a' e b => ?_)
 have hc := h F hF
 rw [dif_pos hc, dif_pos hc] at e
 rw [hc.choose_spec]
 rw [cuF_mx, cuF_mx, e]
theorem IsCube.and {F G : Bfn} (h : IsCube F) (g : IsCube G) : IsCube (fun a => F a && G a) := by
 obtain ⟨l, rfl⟩ := h
 obtain ⟨m, rfl⟩ := g
 exact ⟨l ++ m, funext fun a => by unfold cuF; rw [List.all_append]⟩
theorem IsCube.top : IsCube (fun _ => Bool.true) := ⟨[], rfl⟩
theorem IsCube.congr {F G : Bfn} (h : IsCube F) (e : ∀ a, G a = F a) : IsCube G := by rw [show G = F from funext e]; exact h
theorem PSt.cube {n : Nat} {F : Bfn} (h : IsCube F) : PSt n F 2 := fun M _ _ => by
 obtain ⟨l, rfl⟩ := h
 refine ⟨fun d a => if cuF (l.filter fun x => decide (M.lev x.1 < d)) a = Bool.true then 1 else 0, fun d a => by dsimp only; split <;> omega, fun d a a' e b => ?_⟩
 have hm : ∀ x : Nat → Bool, M.mix d x b = mxD (fun v => decide (M.lev v < d)) x b := fun x => by
  funext v
  unfold Mgr.mix mxD
  by_cases h : M.lev v < d <;> simp [h]
 rw [hm, hm, cuF_mx, cuF_mx]
 congr 1
 dsimp only at e
 cases h1 : cuF (l.filter fun x => decide (M.lev x.1 < d)) a <;> cases h2 : cuF (l.filter fun x => decide (M.lev x.1 < d)) a' <;> simp [h1, h2] at e ⊢

/-! ### ranges of one field -/
theorem countP_lt {x y : Nat} (hxy : x ≤ y) : ∀ ts : List Nat, ts.countP (fun t => decide (t < x)) ≤ ts.countP (fun t => decide (t < y)) ∧ ((∃ t, t ∈ ts ∧ x ≤ t ∧ t < y) → ts.countP (fun t => decide (t < x)) < ts.countP (fun t => decide (t < y)))
 | [] => ⟨Nat.le_refl _, fun ⟨t, h, _⟩ => by cases h⟩
 | u :: ts => by
  obtain ⟨h1, h2⟩ := countP_lt hxy ts
  simp only [List.countP_cons, decide_eq_true_eq]
  refine ⟨by split <;> split <;> omega, fun ⟨t, ht, hx, hy⟩ => ?_⟩
  rcases List.mem_cons.1 ht with rfl | ht
  ·rw [if_neg (by omega), if_pos hy]; omega
  ·have := h2 ⟨t, ht, hx, hy⟩
   split <;> split <;> omega
theorem pos_same (ts : List Nat) (x y : Nat) (h : 2 * ts.countP (fun t => decide (t < x)) + (if x ∈ ts then 1 else 0) = 2 * ts.countP (fun t => decide (t < y)) + (if y ∈ ts then 1 else 0)) : ∀ t, t ∈ ts → cmp3 x t = cmp3 y t := by
 have key : ∀ x y : Nat, x < y → 2 * ts.countP (fun t => decide (t < x)) + (if x ∈ ts then 1 else 0) = 2 * ts.countP (fun t => decide (t < y)) + (if y ∈ ts then 1 else 0) → ∀ t, t ∈ ts → cmp3 x t = cmp3 y t := fun x y hxy h t ht => by
  obtain ⟨h1, h2⟩ := countP_lt (Nat.le_of_lt hxy) ts
  have e1 : ts.countP (fun t => decide (t < x)) = ts.countP (fun t => decide (t < y)) := by split at h <;> split at h <;> omega
  have no : ¬ (x ≤ t ∧ t < y) := fun q => by have := h2 ⟨t, ht, q⟩; omega
  have nx : x ∉ ts := fun q => by have := h2 ⟨x, q, Nat.le_refl _, hxy⟩; omega
  have ny : y ∉ ts := fun q => by rw [e1, if_neg nx, if_pos q] at h; omega
  have : t ≠ x := fun q => nx (q ▸ ht)
  have : t ≠ y := fun q => ny (q ▸ ht)
  unfold cmp3
  by_cases h3 : x < t
  ·rw [if_pos h3, if_pos (by omega)]
  ·rw [if_neg h3, if_neg (by omega), if_neg (by omega), if_neg (by omega)]
 rcases Nat.lt_trichotomy x y with hl | rfl | hl
 ·exact key x y hl h
 ·exact fun _ _ => rfl
 ·exact fun t ht => (key y x hl h.symm t ht).symm

def PreD (D : Nat → Bool) (k : Nat) (nx : Bool) (m : Nat) : Prop := m ≤ fw k ∧ ∀ bit, bit < fw k → (D (fvar k bit nx) = true ↔ bit < m)
theorem fval_mx {D : Nat → Bool} {k m : Nat} {nx : Bool} (h : PreD D k nx m) (a b : Nat → Bool) : fval k nx (mxD D a b) = bval (fbit k nx b) (fw k - m) + 2 ^ (fw k - m) * bval (fun i => fbit k nx a (fw k - m + i)) m := by
 unfold fval
 have e1 : fw k = (fw k - m) + m := by have := h.1; omega
 conv => lhs; rw [e1]
 rw [bval_split]
 congr 1
 ·refine bval_congr _ (fun i hi => ?_)
  unfold fbit mxD
  rw [if_neg (fun q => by have := (h.2 _ (by omega)).1 q; omega)]
 ·congr 1
  refine bval_congr _ (fun i hi => ?_)
  unfold fbit mxD
  rw [if_pos ((h.2 _ (by have := h.1; omega)).2 (by have := h.1; omega))]
theorem JA.ranges {D : Nat → Bool} {k m : Nat} {nx : Bool} (h : PreD D k nx m) (l : List (Nat × Nat)) : JA D (l.map fun x => rgF k nx x.1 x.2) (4 * l.length + 2) := by
 have hts : ∀ r, ((l.map Prod.fst ++ l.map Prod.snd).map fun t => t / 2 ^ r).length = 2 * l.length := fun r => by simp; omega
 refine ⟨fun a => 2 * ((l.map Prod.fst ++ l.map Prod.snd).map fun t => t / 2 ^ (fw k - m)).countP (fun t => decide (t < bval (fun i => fbit k nx a (fw k - m + i)) m)) + (if bval (fun i => fbit k nx a (fw k - m + i)) m ∈ ((l.map Prod.fst ++ l.map Prod.snd).map fun t => t / 2 ^ (fw k - m)) then 1 else 0), fun a => ?_, fun a a' e F hF b => ?_⟩
 ·have h1 := List.countP_le_length (p := fun t => decide (t < bval (fun i => fbit k nx a (fw k - m + i)) m)) (l := (l.map Prod.fst ++ l.map Prod.snd).map fun t => t / 2 ^ (fw k - m))
  rw [hts] at h1
  dsimp only
  split <;> omega
 ·obtain ⟨x, hx, rfl⟩ := List.mem_map.1 hF
  have p := pos_same _ _ _ e
  have c1 := p (x.1 / 2 ^ (fw k - m)) (List.mem_map.2 ⟨x.1, List.mem_append.2 (.inl (List.mem_map.2 ⟨x, hx, rfl⟩)), rfl⟩)
  have c2 := p (x.2 / 2 ^ (fw k - m)) (List.mem_map.2 ⟨x.2, List.mem_append.2 (.inr (List.mem_map.2 ⟨x, hx, rfl⟩)), rfl⟩)
  have hw := bval_lt (fbit k nx b) (fw k - m)
  have k1 := (cmp3_le (lo := x.1) hw c1).1
  have k2 := (cmp3_le (lo := x.2) hw c2).2
  unfold rgF
  rw [fval_mx h, fval_mx h, Bool.eq_iff_iff, decide_eq_true_eq, decide_eq_true_eq]
  exact and_congr k1 k2

def valL (k : Nat) (nx : Bool) (x : Nat) : List (Nat × Bool) := (List.range (fw k)).map fun i => (fvar k (fw k - 1 - i) nx, x.testBit i)
theorem val_cube {k : Nat} {nx : Bool} {x : Nat} (hx : x < 2 ^ fw k) (a : Nat → Bool) : rgF k nx x x a = cuF (valL k nx x) a := by
 rw [Bool.eq_iff_iff, cuF_iff]
 unfold rgF
 rw [decide_eq_true_eq]
 constructor
 ·rintro ⟨h1, h2⟩ y hy
  obtain ⟨i, hi, rfl⟩ := List.mem_map.1 hy
  have hi := List.mem_range.1 hi
  have e : fval k nx a = x := by omega
  show a _ = x.testBit i
  rw [← e]
  unfold fval
  exact (bval_testbit (fbit k nx a) _ i hi).symm
 ·intro h
  have e : fval k nx a = x := by
   unfold fval
   have q : bval (fbit k nx a) (fw k) = bval (fun i => x.testBit i) (fw k) := bval_congr _ (fun i hi => h _ (List.mem_map.2 ⟨i, List.mem_range.2 hi, rfl⟩))
   rw [q, bval_testBit, Nat.mod_eq_of_lt hx]
  omega
theorem IsCube.val {k : Nat} {nx : Bool} {x : Nat} (hx : x < 2 ^ fw k) : IsCube (rgF k nx x x) := ⟨valL k nx x, funext fun a => val_cube hx a⟩
theorem IsCube.wild (k : Nat) (nx : Bool) (ad ma j : Nat) : IsCube (wiF k nx ad ma j) := by
 refine ⟨((List.range j).filter fun i => !ma.testBit i).map fun i => (fvar k (fw k - 1 - i) nx, ad.testBit i), funext fun a => ?_⟩
 rw [Bool.eq_iff_iff, cuF_iff]
 show wildB _ _ _ _ = true ↔ _
 rw [wildB_iff]
 constructor
 ·rintro h x hx
  obtain ⟨i, hi, rfl⟩ := List.mem_map.1 hx
  obtain ⟨h1, h2⟩ := List.mem_filter.1 hi
  exact h i (List.mem_range.1 h1) (by simpa using h2)
 ·exact fun h i hi hm => h _ (List.mem_map.2 ⟨i, List.mem_filter.2 ⟨List.mem_range.2 hi, by simpa using hm⟩, rfl⟩)

/-! ### counts of one function, level by level -/
theorem PSt.of_JA {n : Nat} {F : Bfn} {s : Nat} (hF : Rd 0 n F) (h : ∀ d, d ≤ n → JA (fun v => decide (v < d)) [F] s) : PSt n F s := fun M hn hp => by
 classical
 refine ⟨fun d a => (h (min d n) (Nat.min_le_right _ _)).choose a, fun d a => (h (min d n) (Nat.min_le_right _ _)).choose_spec.1 a, fun d a a' e b => ?_⟩
 have := (h (min d n) (Nat.min_le_right _ _)).choose_spec.2 a a' e F (.head _) b
 have m : ∀ x : Nat → Bool, F (M.mix d x b) = F (mxD (fun v => decide (v < min d n)) x b) := fun x => hF _ _ (fun v _ hv => by
  unfold Mgr.mix mxD
  rw [hp v (by omega)]
  by_cases hd : v < d
  ·rw [if_pos hd, if_pos (by simp; omega)]
  ·rw [if_neg hd, if_neg (by simp; omega)])
 rw [m, m]
 exact this

end Go.Proofs.YtdgnbbmgcgfibaaGreatDoor

namespace Go.Proofs.YtdgnbbmgcgfibaaGreatDoor
open Go.RowKit Go.Shelf

attribute [local go_sem] Oper.semAt_some

theorem row_rec {w : World} {base : Nat} {e : TypeId} {size n l : Nat} {v : Value} {xs : List Value} {o : Obj} (h : w.ownsRow base e size v n xs) (hl : w.heap[l]? = some o) (hr : isRec o = true) : v.ownBlock ≠ some l := fun hv => by
 rcases h.2 with ⟨hv0, h0⟩ | ⟨g, cap, cur, hv0, hg1, hg2, hg3, _, hg5, hg6⟩
 ·rw [hv0] at hv; cases hv
 ·rw [hv0] at hv
  cases hv
  rw [hl] at hg2
  cases hg2
  cases hr
theorem Rep.notRec {w : World} {p l : Nat} {M : Mgr} {L : Lay} {o : Obj} (R : Rep w p M L) (hl : w.heap[l]? = some o) (hr : isRec o = true) : ¬ L.at p l := fun h => by
 obtain ⟨F, raw, _⟩ := R.raw
 rcases h with rfl | rfl | rfl | h | h | h | h | h
 ·have := raw.mgr
  rw [hl] at this
  cases this
  cases hr
 ·obtain ⟨es, clock, hb, _⟩ := raw.uniq
  rw [hl] at hb
  cases hb
  cases hr
 ·obtain ⟨es, clock, hb, _⟩ := raw.memo
  rw [hl] at hb
  cases hb
  cases hr
 ·exact row_rec raw.order hl hr h
 ·exact row_rec raw.level hl hr h
 ·exact row_rec raw.nodes hl hr h
 ·exact row_rec raw.shown hl hr h
 ·exact row_rec raw.free hl hr h
theorem KeepsRec.of_kp {A : Nat → Prop} {W W' : World} (k : Kp A W W') (hA : ∀ (l : Nat) (o : Obj), W.heap[l]? = some o → isRec o = true → ¬ A l) : KeepsRec W W' := fun l o hl hr => by
 rw [k.block l (heap_lt hl) (hA l o hl hr)]
 exact hl
theorem KeepsRec.no {W W' : World} (k : Kp No W W') : KeepsRec W W' := .of_kp k (fun _ _ _ _ h => h)
theorem kp_put (W : World) (l : Nat) (o : Obj) : Kp (fun k => k = l) W (W.putObj l o) := ⟨rfl, rfl, rfl, by simp, fun k _ hk => World.putObj_heap_other hk⟩

section
variable {w0 w w' : World} {p n c : Nat} {L0 L : Lay} {M M' : Mgr} {B : List (Int × Bfn)}
theorem Hf.kp {A : Nat → Prop} (h : Hf w0 p L0 n c w M L B) (k : Kp A w w') (hA : ∀ x, A x → ¬ L.at p x) (hn : ∀ x, A x → w0.heap.size ≤ x) (hg : ¬ A 0) : Hf w0 p L0 n c w' M L B :=
 ⟨⟨h.sd.rep.kp k hA, h.sd.kp.trans (A' := A) (fun x hx => .inr (hn x hx)) k, h.sd.fr⟩, h.qk, h.gl.kp k hg, h.off⟩
theorem Hf.put {l : Nat} {o : Obj} (h : Hf w0 p L0 n c w M L B) (hn : w0.heap.size ≤ l) (hl : w.heap[l]? = some o) (hr : isRec o = true) (o' : Obj) : Hf w0 p L0 n c (w.putObj l o') M L B :=
 h.kp (kp_put w l o') (fun x e => by rw [e]; exact h.rep.notRec hl hr) (fun x e => by rw [e]; exact hn) (fun e => by
  have q := h.gl 0 (by omega)
  rw [show (⟨0, 0, none⟩ : Addr) = ⟨l, 0, none⟩ by rw [← e]] at q
  unfold World.cell? at q
  dsimp only at q
  rw [hl] at q
  cases o with
  | loop x => cases q
  | deferred x => cases q
  | _ => cases hr)
theorem Hf.stepK {F : Bfn} {e : Ending} {c' : Nat} (h : Hf w0 p L0 n c w M L B) (o : OpQ p n c' L w F B e w') : ∃ r M' L', e = .returned (.int .i64 r) ∧ 0 ≤ r ∧ Hf w0 p L0 n c' w' M' L' ((r, F) :: B) ∧ Kp (L.at p) w w' ∧ Fresh (L.at p) (L'.at p) w ∧ KeepsRec w w' := by
 obtain ⟨r, M', ⟨L', he, rr, k, f⟩, q, h0⟩ := o
 refine ⟨r, M', L', he, h0, ⟨⟨rr, h.sd.kp.trans h.sd.fr k, fun x hx => ?_⟩, q, h.gl.kp k h.off, fun hx => ?_⟩, k, f, .of_kp k (fun l o hl hr => h.rep.notRec hl hr)⟩
 ·rcases f x hx with h1 | h1
  ·exact h.sd.fr x h1
  ·right; have := h.sd.kp.size; omega
 ·rcases f _ hx with h1 | h1
  ·exact h.off h1
  ·have := h.gl.lt; omega
theorem Fresh.then {A A' A'' : Nat → Prop} {w w1 : World} (f : Fresh A A' w) (g : Fresh A' A'' w1) (h : w.heap.size ≤ w1.heap.size) : Fresh A A'' w := fun x hx => by
 rcases g x hx with h1 | h1
 ·exact f x h1
 ·right; omega
end

def allF : List Bfn → Bfn
 | [] => fun _ => true
 | F :: l => fun a => F a && allF l a

theorem bkN_at {n x : Nat} {pre : List Nat} (h : pre ++ [x] <+: bkN n n) : pre.length < n ∧ x = n - 1 - pre.length := by
 obtain ⟨t, ht⟩ := h
 have hl := congrArg List.length ht
 simp only [List.length_append, List.length_cons, List.length_nil, bkN_len] at hl
 have h1 : (bkN n n)[pre.length]? = some x := by rw [← ht]; simp
 have h2 : (bkN n n)[pre.length]? = some (n - 1 - pre.length) := by simp [bkN, List.getElem?_range (show pre.length < n by omega)]
 rw [h1] at h2
 cases h2
 exact ⟨by omega, rfl⟩

def AllI (w W0 : World) (p c s hs : Nat) (L : Lay) (B l : List (Int × Bfn)) (pre : List Nat) (W : World) : Prop :=
 ∃ r M' L', Hf w p L 220 (c + pre.length * (220 * s)) W M' L' ((r, allF ((l.drop (l.length - pre.length)).map Prod.snd)) :: B) ∧ (Fresh (L.at p) (L'.at p) W0 ∧ W0.heap.size ≤ W.heap.size) ∧ W.heap[hs]? = some (.cells #[ptr p] 52 (0, 0)) ∧ W.heap[hs + 1]? = some (.cells #[.int .i64 r] 54 (0, 0))

set_option maxRecDepth 100000 in
set_option maxHeartbeats 4000000 in
theorem all_ok {p c s : Nat} {M : Mgr} {L : Lay} {B : List (Int × Bfn)} (l : List (Int × Bfn)) (hl0 : 0 < l.length) (hl : l.length ≤ 8) (hm : ∀ x, x ∈ l → x ∈ B) {dv : Value} {w : World} (R : Rep w p M L) (q : Qk 220 c M B) (g : Gl w) (ho : ¬ L.at p 0) (hd : SrcAt w dv 1 l.length (l.map fun x => .int .i64 x.1))
  (hb : ∀ g o m k, dv = .slice (some ⟨g, o, none⟩) m k → ¬ L.at p g)
  (hs : ∀ j, PSt 220 (allF ((l.drop j).map Prod.snd)) s) (hc : c + l.length * (220 * s) ≤ 1000000000000) :
  Calls Tryz.prog 27 #[ptr p, dv] w (OpQ p 220 (c + l.length * (220 * s)) L w (allF (l.map Prod.snd)) B) := by
 have H := Lib.hid (Hf.start R q g ho)
 have RLT := Lib.hid R.lt
 have GLT := Lib.hid g.lt
 have HD := Lib.hid hd
 obtain ⟨ga, oa, cp, rfl, glt, hcell⟩ := hd.cellAt hl0
 have HB := Lib.hid (hb ga oa _ _ rfl)
 have CELL : Hid (∀ j, j < l.length → w.cell? ⟨ga, oa + j, none⟩ = some (.int .i64 (((l[j]?).map Prod.fst).getD 0))) := Lib.hid (fun j hj => hcell j _ (by simp [hj]))
 have BK := Lib.hid (fun (z : World) => BackR_ok (some ⟨ga, oa, none⟩) l.length cp z)
 have hll : l.length ≤ 9223372036854775807 := by omega
 clear R q g hd hcell hb
 refine callsIn_wide.1 (callsIn_of_wp_marks Tryz.func27 rfl trivial ?_ rfl (n := 3))
 refine wpIn_wide.2 ?_
 simp only [Tryz.ntmps27, List.size_toArray, List.length_cons, List.length_nil, Nat.reduceAdd, Nat.reduceSub, Array.replicate_succ, Array.replicate_zero, List.push_toArray, List.append_toArray, List.nil_append, List.cons_append]
 go_upto_region 2 with fail
 have k3 : Kp No w (((w.alloc (.cells #[ptr p] 52)).alloc (.cells #[.int .i64 1] 54)).alloc (.cells #[.slice (some ⟨ga, oa, none⟩) l.length cp] 105)) := ((Kp.alloc _).trans_no (Kp.alloc _)).trans_no (Kp.alloc _)
 have h1 : (((w.alloc (.cells #[ptr p] 52)).alloc (.cells #[.int .i64 1] 54)).alloc (.cells #[.slice (some ⟨ga, oa, none⟩) l.length cp] 105)).heap[w.heap.size]? = some (.cells #[ptr p] 52 (0, 0)) := by
  rw [Below.heap_alloc _ _ _ (by simp; omega), Below.heap_alloc _ _ _ (by simp)]; exact heap_alloc_new _ _
 have h2 : (((w.alloc (.cells #[ptr p] 52)).alloc (.cells #[.int .i64 1] 54)).alloc (.cells #[.slice (some ⟨ga, oa, none⟩) l.length cp] 105)).heap[w.heap.size + 1]? = some (.cells #[.int .i64 1] 54 (0, 0)) := by
  rw [Below.heap_alloc _ _ _ (by simp)]
  have := heap_alloc_new (w.alloc (.cells #[ptr p] 52)) (.cells #[.int .i64 1] 54)
  simpa using this
 have h3 : (((w.alloc (.cells #[ptr p] 52)).alloc (.cells #[.int .i64 1] 54)).alloc (.cells #[.slice (some ⟨ga, oa, none⟩) l.length cp] 105)).heap[w.heap.size + 1 + 1]? = some (.cells #[.slice (some ⟨ga, oa, none⟩) l.length cp] 105 (0, 0)) := by
  have := heap_alloc_new ((w.alloc (.cells #[ptr p] 52)).alloc (.cells #[.int .i64 1] 54)) (.cells #[.slice (some ⟨ga, oa, none⟩) l.length cp] 105)
  simpa using this
 have hz : (((w.alloc (.cells #[ptr p] 52)).alloc (.cells #[.int .i64 1] 54)).alloc (.cells #[.slice (some ⟨ga, oa, none⟩) l.length cp] 105)).heap.size = w.heap.size + 3 := by simp
 go_wp2_with fail
 refine (BK.out _).mono ?_
 rintro e w2 ⟨rfl, rfl⟩
 go_wp2_with fail
 generalize (((w.alloc (.cells #[ptr p] 52)).alloc (.cells #[.int .i64 1] 54)).alloc (.cells #[.slice (some ⟨ga, oa, none⟩) l.length cp] 105)) = W0 at *
 have H0 : Hid (Hf w p L 220 c W0 M L B) := Lib.hid (H.out.no k3)
 have K3 := Lib.hid k3
 have glt0 : ga < W0.heap.size := by omega
 have HST := backR_hands 2 (by omega) (w.heap.size + 1 + 1) ga oa cp l.length (some ⟨ga, oa, none⟩) (.inl rfl) (by omega) (fun j => ((l[j]?).map Prod.fst).getD 0) W0 (by omega) glt0 (by rw [cell_of_row _ _ _ _ _ _ h3]; rfl) (fun j hj => (k3.cell (a := ⟨ga, oa + j, none⟩) glt (fun h => h)).trans (CELL.out j hj))
 have LB : Hid (∀ L' : Lay, Fresh (L.at p) (L'.at p) W0 → ¬ L'.at p w.heap.size ∧ ¬ L'.at p (w.heap.size + 1) ∧ ¬ L'.at p (w.heap.size + 1 + 1) ∧ ¬ L'.at p ga) := Lib.hid (fun L' f => by
  refine ⟨fun h => ?_, fun h => ?_, fun h => ?_, fun h => ?_⟩
  all_goals
   rcases f _ h with h | h
   ·first | (have := RLT.out _ h; omega) | exact HB.out h
   ·omega)
 refine (wpIn_wide (n := 3)).1 (range_calls rfl (by omega) (gf := 93) (lb := #[.pointer (some ⟨w.heap.size + 1 + 1, 0, none⟩)]) rfl trivial (enters_of Tryz.func93 (by kernel_rfl) rfl)
  HST (fun _ => rfl) BkR.trans (BkR.put (by omega) glt0)
  (AllI w W0 p c s w.heap.size L B l)
  (fun pre W o ⟨r, M', L', h, fr, b1, b2⟩ => ⟨r, M', L', h.no (Kp.alloc o), ⟨fr.1, by simp; omega⟩, by rw [Below.heap_alloc _ _ _ (heap_lt b1)]; exact b1, by rw [Below.heap_alloc _ _ _ (heap_lt b2)]; exact b2⟩)
  (fun pre W k o o' ⟨r, M', L', h, fr, b1, b2⟩ hk hl2 hr => ⟨r, M', L', h.put (by omega) hl2 hr o', ⟨fr.1, by simp; omega⟩, by rw [World.putObj_heap_other (by omega)]; exact b1, by rw [World.putObj_heap_other (by omega)]; exact b2⟩)
  ⟨1, M, L, by
   refine ((H0.out.consts.sub (fun x hx => ?_)).mono (by simp))
   have e : (1, allF ((l.drop (l.length - ([] : List Nat).length)).map Prod.snd)) = ((1 : Int), (fun _ => true : Bfn)) := by simp [allF]
   rw [e] at hx
   rcases List.mem_cons.1 hx with rfl | hx
   ·exact .tail _ (.head _)
   ·exact .tail _ (.tail _ hx), ⟨fun x hx => .inl hx, Nat.le_refl _⟩, h1, h2⟩
  (fun x a' _ => a' = { tmps := #[ptr p, .slice (some ⟨ga, oa, none⟩) l.length cp, .pointer (some ⟨w.heap.size, 0, none⟩), undef, .int .i64 0, .pointer (some ⟨w.heap.size + 1, 0, none⟩), undef, .int .i64 (((l[x]?).map Prod.fst).getD 0), .slice (some ⟨ga, oa, none⟩) l.length cp, .func (.func 93) #[] #[.pointer (some ⟨w.heap.size + 1 + 1, 0, none⟩)], .int .i64 (x : Int), .int .i64 (((l[x]?).map Prod.fst).getD 0), undef, undef, undef, undef, undef], defers := [] })
  (fun _ _ _ _ _ _ h _ _ => h)
  ?assign ?body ?done)
 case assign =>
  intro k pre x W K hI _ hK
  gi_wp2
  exact hK _ _ (KeepsRec.refl _) ⟨rfl, rfl⟩ hI rfl
 case body =>
  rintro k pre x a' W ⟨r, M', L', h, ⟨fr, hsW⟩, b1, b2⟩ hp rfl
  obtain ⟨hpl, rfl⟩ := bkN_at hp
  obtain ⟨i, hi⟩ : ∃ i, i = l.length - 1 - pre.length := ⟨_, rfl⟩
  have hil : i < l.length := by omega
  have ei : l[i]? = some l[i] := List.getElem?_eq_getElem hil
  have mi := hm l[i] (List.getElem_mem hil)
  have eD : allF ((l.drop (l.length - (pre ++ [l.length - 1 - pre.length]).length)).map Prod.snd) = fun a => l[i].2 a && allF ((l.drop (l.length - pre.length)).map Prod.snd) a := by
   rw [show l.length - (pre ++ [l.length - 1 - pre.length]).length = i by simp; omega, show l.length - pre.length = i + 1 by omega, List.drop_eq_getElem_cons hil]
   rfl
  have PS := hs i
  rw [show allF ((l.drop i).map Prod.snd) = fun a => l[i].2 a && allF ((l.drop (l.length - pre.length)).map Prod.snd) a by
   rw [show l.length - pre.length = i + 1 by omega, List.drop_eq_getElem_cons hil]; rfl] at PS
  rw [← hi, ei]
  have ED := Lib.hid eD
  rw [← hi] at ED
  clear eD
  show (Code.wpIn _ _ _ _ (roundEnd (AllI w W0 p c s w.heap.size L B l) (BkR (w.heap.size + 1 + 1) ga) (pre ++ [i]) W) { tmps := #[ptr p, .slice (some ⟨ga, oa, none⟩) l.length cp, .pointer (some ⟨w.heap.size, 0, none⟩), undef, .int .i64 0, .pointer (some ⟨w.heap.size + 1, 0, none⟩), undef, .int .i64 l[i].1, .slice (some ⟨ga, oa, none⟩) l.length cp, .func (.func 93) #[] #[.pointer (some ⟨w.heap.size + 1 + 1, 0, none⟩)], .int .i64 (i : Int), .int .i64 l[i].1, undef, undef, undef, undef, undef], defers := [] } W)
  generalize l[i] = fi at *
  obtain ⟨ri, Fi⟩ := fi
  have hcost : c + pre.length * (220 * s) + 220 * s ≤ c + l.length * (220 * s) := by
   have := Nat.mul_le_mul_right (220 * s) (show pre.length + 1 ≤ l.length from hpl)
   rw [Nat.add_mul] at this
   omega
  have AN := Lib.hid (AndQ h.rep h.qk (f := ri) (g := r) (F := Fi) (.tail _ mi) (.head _) PS (by omega))
  have HH := Lib.hid h
  have B1 := Lib.hid b1
  have B2 := Lib.hid b2
  obtain ⟨n1, n2, n3, n4⟩ := LB.out L' fr
  have c1 : W.cell? ⟨w.heap.size, 0, none⟩ = some (ptr p) := by rw [cell_of_row _ _ _ _ _ _ b1]; rfl
  have c2 : W.cell? ⟨w.heap.size + 1, 0, none⟩ = some (.int .i64 r) := by rw [cell_of_row _ _ _ _ _ _ b2]; rfl
  clear h b1 b2 PS mi ei
  gi_wp2_with fail
  refine ⟨trivial, CallsIn.mono (calls_round AN.out (fun _ _ h => h)) ?_⟩
  intro e W' o
  obtain ⟨r2, M2, L2, rfl, _, h2, kk, f2, kr⟩ := HH.out.stepK o
  have KR := Lib.hid kr
  have FR2 : Fresh (L.at p) (L2.at p) W0 := fr.then f2 hsW
  have d1 : W'.heap[w.heap.size]? = some (.cells #[ptr p] 52 (0, 0)) := (kk.block _ (heap_lt B1.out) n1).trans B1.out
  have d2 : W'.heap[w.heap.size + 1]? = some (.cells #[.int .i64 r] 54 (0, 0)) := (kk.block _ (heap_lt B2.out) n2).trans B2.out
  have c3 : W'.cell? ⟨w.heap.size + 1, 0, none⟩ = some (.int .i64 r) := by rw [cell_of_row _ _ _ _ _ _ d2]; rfl
  have c4 : W'.frozen? ⟨w.heap.size + 1, 0, none⟩ = false := by simp [World.frozen?, d2]
  have hlt0 : w.heap.size + 1 < W.heap.size := heap_lt B2.out
  have e1 : (W'.setCell ⟨w.heap.size + 1, 0, none⟩ (.int .i64 r2)).heap[w.heap.size]? = some (.cells #[ptr p] 52 (0, 0)) := by
   rw [Below.heap_setCell _ _ _ _ (by show w.heap.size ≠ w.heap.size + 1; omega)]; exact d1
  have e2 : (W'.setCell ⟨w.heap.size + 1, 0, none⟩ (.int .i64 r2)).heap[w.heap.size + 1]? = some (.cells #[.int .i64 r2] 54 (0, 0)) := heap_setCell_same W' _ 0 _ _ _ d2
  have RES : Hid (roundEnd (AllI w W0 p c s w.heap.size L B l) (BkR (w.heap.size + 1 + 1) ga) (pre ++ [i]) W .normal { tmps := #[], defers := [] } (W'.setCell ⟨w.heap.size + 1, 0, none⟩ (.int .i64 r2))) := Lib.hid (by
   refine ⟨KR.out.trans (.of_kp (Kp.setCell (w := W') ⟨w.heap.size + 1, 0, none⟩ (.int .i64 r2)) (fun k o hk ho e => ?_)), ⟨?_, ?_⟩, r2, M2, L2, ?_, ⟨FR2, by have := kk.size; simp; omega⟩, e1, e2⟩
   ·rw [show k = w.heap.size + 1 from e, d2] at hk
    cases hk
    cases ho
   ·rw [Below.heap_setCell _ _ _ _ (by show w.heap.size + 1 + 1 ≠ w.heap.size + 1; omega)]
    exact kk.block _ (by omega) n3
   ·rw [Below.heap_setCell _ _ _ _ (by show ga ≠ w.heap.size + 1; omega)]
    exact kk.block _ (by omega) n4
   ·rw [ED.out]
    refine ((h2.kp (Kp.setCell (w := W') ⟨w.heap.size + 1, 0, none⟩ (.int .i64 r2)) (fun x e => ?_) (fun x e => ?_) (fun e => ?_)).sub (fun x hx => ?_)).mono (by simp [Nat.add_mul]; omega)
    ·rw [show x = w.heap.size + 1 from e]; exact (LB.out L2 FR2).2.1
    ·rw [show x = w.heap.size + 1 from e]; omega
    ·have := GLT.out
     rw [show 0 = w.heap.size + 1 from e] at this
     omega
    ·rcases List.mem_cons.1 hx with rfl | hx
     ·exact .head _
     ·exact .tail _ (.tail _ hx))
  gi_wp2
  exact RES.out
 case done =>
  rintro D W hD ⟨r, M', L', h, ⟨fr, hsW⟩, b1, b2⟩ hK
  have c2 : W.cell? ⟨w.heap.size + 1, 0, none⟩ = some (.int .i64 r) := by rw [cell_of_row _ _ _ _ _ _ b2]; rfl
  rw [bkN_len, Nat.sub_self, List.drop_zero] at h
  have RET : Hid (OpQ p 220 (c + l.length * (220 * s)) L w (allF (l.map Prod.snd)) B (.returned (.int .i64 r)) (W.putObj D (.deferred none))) := Lib.hid ((h.put (by omega) hK rfl _).ret (.head _) (fun x hx => .tail _ hx) (Nat.le_refl _))
  clear h
  go_wp2
  refine ⟨by simp, .inl ⟨_, _, rfl, run_takeDeferred hK, ?_⟩⟩
  refine ⟨_, results_tmp rfl _ _ _, ?_⟩
  exact RET.out

end Go.Proofs.YtdgnbbmgcgfibaaGreatDoor

namespace Go.Proofs.YtdgnbbmgcgfibaaGreatDoor
open Go.RowKit

theorem nats_at {l : List Nat} {k : Nat} (h : k < l.length) : (l.map natV)[k]? = some (natV (l.getD k 0)) := by simp [h]
theorem src_ints {w : World} {v : Value} {l : List Nat} (h : SrcAt w v 1 l.length (l.map natV)) : SrcAt w v 1 (l.map Int.ofNat).length ((l.map Int.ofNat).map intV) := by
 have e : (l.map Int.ofNat).map intV = l.map natV := by
  rw [List.map_map]
  rfl
 rw [List.length_map, e]
 exact h
def NIxP (w : World) (l : List Nat) (v : Nat) (e : Ending) (w' : World) : Prop := ∃ k : Int, e = .returned (.int .i64 k) ∧ w' = w ∧ (0 ≤ k ↔ v ∈ l)
def NIxR (w : World) (l : List Nat) (v : Nat) (gk : Nat) (s8 : Value) (x : World) : Prop := ∃ k, k + gk = l.length ∧ s8 = .int .i64 (k : Int) ∧ x = w ∧ ∀ i, i < k → l.getD i 0 ≠ v

set_option maxRecDepth 100000 in
set_option maxHeartbeats 1000000 in
theorem NIndex_ok {l : List Nat} {v : Nat} {ov : Value} {w : World} (hl : l.length ≤ 256) (src : SrcAt w ov 1 l.length (l.map natV)) :
  Calls Tryz.prog 94 #[ov, .int .i64 (v : Int)] w (NIxP w l v) := by
 have SRC := Lib.hid src
 obtain ⟨ao, co, rfl⟩ := src.form
 have hli : (l.length : Int) ≤ 256 := by omega
 have J0 : Hid (NIxR w l v l.length (.int .i64 0) w) := Lib.hid ⟨0, by omega, rfl, rfl, fun i h => by omega⟩
 clear src
 go_enter Tryz.func94, Tryz.ntmps94
 go_wp2_with fail
 go_loopg [8] l.length (fun gk s8 x => NIxR w l v gk s8 x)
 case atStart => exact J0.out
 case round =>
  clear J0
  obtain ⟨k, hk, rfl, rfl, hne⟩ := hrel
  have HNE := Lib.hid hne
  have HK := Lib.hid hk
  by_cases hlt : k < l.length
  ·have hlti : (k : Int) < l.length := by omega
   obtain ⟨g, o, cc, hv, glt, hc⟩ := SRC.out.cellAt (by omega)
   cases hv
   have d1 := hc k (natV (l.getD k 0)) (nats_at hlt)
   unfold natV at d1
   have HLT := Lib.hid hlt
   by_cases e : l.getD k 0 = v
   ·have RET : Hid (NIxP wr l v (.returned (.int .i64 (k : Int))) wr) := Lib.hid ⟨k, rfl, rfl, fun _ => by
     rw [← e, List.getD_eq_getElem?_getD, List.getElem?_eq_getElem hlt]
     exact List.getElem_mem hlt, fun _ => by omega⟩
    rw [e] at d1
    clear hne hk hc e
    go_wp2_with fail
    go_ret
    exact RET.out
   ·have ei : ¬ ((v : Int) = ((l.getD k 0 : Nat) : Int)) := by omega
    have ej : (((v : Nat) : Int) == ((l.getD k 0 : Nat) : Int)) = false := by simpa using ei
    have JN : Hid (NIxR wr l v (l.length - (k + 1)) (.int .i64 ((k + 1 : Nat) : Int)) wr) := Lib.hid ⟨k + 1, by omega, rfl, rfl, fun i hi => by
     by_cases e2 : i = k
     ·subst e2; exact e
     ·exact hne i (by omega)⟩
    clear hne hk hc e
    generalize l.getD k 0 = y at *
    go_wp2_with fail
    go_roundg (l.length - (k + 1))
    case measure => have := HK.out; omega
    case rel => exact JN.out
  ·have hge : ¬ (k : Int) < l.length := by omega
   have RET : Hid (NIxP wr l v (.returned (.int .i64 (-1))) wr) := Lib.hid ⟨-1, rfl, rfl, fun h => by omega, fun h => by
    obtain ⟨i, hi, e⟩ := List.getElem_of_mem h
    refine absurd ?_ (HNE.out i (by omega))
    rw [List.getD_eq_getElem?_getD, List.getElem?_eq_getElem hi]
    exact e⟩
   clear hne hk hlt
   go_wp2_with fail
   go_ret
   exact RET.out

def NCoP (w : World) (l : List Nat) (v : Nat) (e : Ending) (w' : World) : Prop := e = .returned (.bool (decide (v ∈ l))) ∧ w' = w
set_option maxHeartbeats 1000000 in
theorem NContains_ok {l : List Nat} {v : Nat} {ov : Value} {w : World} (hl : l.length ≤ 256) (src : SrcAt w ov 1 l.length (l.map natV)) :
  Calls Tryz.prog 60 #[ov, .int .i64 (v : Int)] w (NCoP w l v) := by
 have IX := Lib.hid (NIndex_ok (v := v) hl src)
 clear src
 go_enter Tryz.func60, Tryz.ntmps60
 go_wp2_with fail
 refine IX.out.mono ?_
 rintro e w' ⟨k, rfl, rfl, hk⟩
 by_cases h : 0 ≤ k
 ·have e : decide (v ∈ l) = true := decide_eq_true (hk.1 h)
  have RET : Hid (NCoP w' l v (.returned (.bool true)) w') := Lib.hid ⟨by rw [e], rfl⟩
  clear hk e
  go_wp2_with fail
  go_ret
  exact RET.out
 ·have e : decide (v ∈ l) = false := decide_eq_false (fun q => h (hk.2 q))
  have hd : decide (0 ≤ k) = false := decide_eq_false h
  have RET : Hid (NCoP w' l v (.returned (.bool false)) w') := Lib.hid ⟨by rw [e], rfl⟩
  clear hk e
  go_wp2_with fail
  go_ret
  exact RET.out

def exL (l : List Nat) (k : Nat) : List Nat := (List.range k).filter fun i => !decide (i ∈ l)
def exW (l : List Nat) : Nat → Bool := fun k => decide (k < 5) && !decide (k ∈ l)
theorem exL_succ (l : List Nat) (k : Nat) : exL l (k + 1) = exL l k ++ if k ∈ l then [] else [k] := by
 unfold exL
 rw [List.range_succ, List.filter_append]
 congr 1
 by_cases h : k ∈ l <;> simp [h]
theorem exL_len (l : List Nat) (k : Nat) : (exL l k).length ≤ k := by
 have := List.length_filter_le (fun i => !decide (i ∈ l)) (List.range k)
 simpa [exL] using this
theorem exW_wnt (l : List Nat) : wnt ((exL l 5).map Int.ofNat) = exW l := by
 funext k
 unfold wnt exW
 by_cases h : k < 5
 ·rw [decide_eq_true h, Bool.true_and, Bool.true_and]
  rw [Bool.eq_iff_iff, decide_eq_true_eq]
  simp only [exL, List.mem_map, List.mem_filter, List.mem_range, Bool.not_eq_true', decide_eq_false_iff_not]
  constructor
  ·rintro ⟨x, ⟨_, hx⟩, e⟩
   have : x = k := by have := e; simp at this; omega
   rw [← this]; exact hx
  ·exact fun hx => ⟨k, ⟨h, hx⟩, rfl⟩
 ·rw [decide_eq_false h, Bool.false_and, Bool.false_and]

def ExcR (w : World) (l : List Nat) (gk : Nat) (s5 s7 : Value) (x : World) : Prop := ∃ k v, k + gk = 5 ∧ s7 = .int .i64 (k : Int) ∧ v = s5 ∧ x.ownsRow w.heap.size 3 1 v (exL l k).length ((exL l k).map natV) ∧ Kp No w x

set_option maxRecDepth 100000 in
set_option maxHeartbeats 2000000 in
theorem except_ok {p c : Nat} {M : Mgr} {L : Lay} {B : List (Int × Bfn)} (l : List Nat) (hl : l.length ≤ 256) {dv : Value} {w : World} (R : Rep w p M L) (q : Qk 220 c M B) (g : Gl w) (ho : ¬ L.at p 0) (hd : SrcAt w dv 1 l.length (l.map natV)) (hc : c ≤ 500000000000) :
  Calls Tryz.prog 28 #[ptr p, dv] w (OpQ p 220 (c + 20000000) L w (fun a => smR (exW l) a 104) B) := by
 obtain ⟨i0, hi0, hz0, hz1, hz2⟩ := info_parts info_int
 have H := Lib.hid (Hf.start R q g ho)
 have HC := Lib.hid hc
 have NC := Lib.hid (fun (v : Nat) (y : World) (k : Kp No w y) => NContains_ok (v := v) hl (hd.no k))
 have J0 : Hid (ExcR w l 5 (.slice none 0 0) (.int .i64 0) w) := Lib.hid ⟨0, _, by omega, rfl, rfl, World.ownsRow_nil _ _ _ _, Kp.refl _ _⟩
 clear R q g ho hd hc
 go_enter Tryz.func28, Tryz.ntmps28
 go_wp2_with fail
 go_loopg [5, 7] 5 (fun gk s5 s7 x => ExcR w l gk s5 s7 x)
 case atStart => exact J0.out
 case round =>
  clear J0
  obtain ⟨k, v, hk, rfl, e5, row, kp⟩ := hrel
  subst e5
  by_cases hlt : k < 5
  ·have HK := Lib.hid hk
   have KP := Lib.hid kp
   have ROW := Lib.hid row
   have hsz := kp.size
   have hln : (exL l k).length ≤ 5 := by have := exL_len l k; omega
   have SN := Lib.hid (exL_succ l k)
   have hlti : (k : Int) < 5 := by omega
   have NK := Lib.hid (NC.out k wr kp)
   clear hk kp
   by_cases hkl : k ∈ l
   ·have e1 : decide (k ∈ l) = true := decide_eq_true hkl
    unfold NCoP at NK
    rw [e1] at NK
    have JN : Hid (ExcR w l (5 - (k + 1)) v (.int .i64 ((k + 1 : Nat) : Int)) wr) := Lib.hid ⟨k + 1, v, by omega, rfl, rfl, by rw [SN.out, if_pos hkl, List.append_nil]; exact ROW.out, KP.out⟩
    clear row SN e1 hln
    generalize exL l k = lst at *
    go_wp2_with fail
    refine NK.out.mono ?_
    rintro e w' ⟨rfl, rfl⟩
    clear NK
    go_wp2_with fail
    go_roundg (5 - (k + 1))
    case measure => have := HK.out; omega
    case rel => exact JN.out
   ·have e1 : decide (k ∈ l) = false := decide_eq_false hkl
    unfold NCoP at NK
    rw [e1] at NK
    rw [if_neg hkl] at SN
    clear e1 hkl
    generalize exL l k = lst at *
    go_wp2_with fail
    refine NK.out.mono ?_
    rintro e w' ⟨rfl, rfl⟩
    clear NK
    go_wp2_with (at_builtin; refine wpList_append_lies _ rfl (.tmp 14) (.tmp 16) _ rfl w.heap.size 3 i0 _ 1 8 Tryz.underlying94 hi0 hz0 hz1 hz2 rfl (by omega) v lst.length (lst.map natV) rfl (row.alloc _) ⟨w'.heap.size, 0, none⟩ 1 1 [.int .i64 (k : Int)] rfl rfl (World.news_of_block (heap_alloc_new _ _)) (by simp [Value.oneCell']) (by omega) (by unfold maxLen; omega) (by omega) (by simp; omega) (w'.heap.size + 1) (by simp) ?_; intro g5 cap5 w3 hown hgrow hat hlt2; have JN : Hid (ExcR w l (5 - (k + 1)) (.slice (some ⟨g5, 0, none⟩) (lst.length + 1) cap5) (.int .i64 ((k + 1 : Nat) : Int)) w3) := (Lib.hid (by
     have kg : Kp (fun z => v.ownBlock = some z) w' w3 := grown_no (Kp.alloc _) hgrow
     refine ⟨k + 1, _, by omega, rfl, rfl, ?_, KP.out.trans (A' := fun z => v.ownBlock = some z) (fun z hz => .inr (ROW.out.lt z hz).1) kg⟩
     rw [SN.out, List.length_append, List.map_append]
     exact hown)); clear hown hgrow hat hlt2 row)
    go_roundg (5 - (k + 1))
    case measure => have := HK.out; omega
    case rel => exact JN.out
  ·obtain rfl : k = 5 := by omega
   have H1 := Lib.hid (H.out.no kp)
   have hd5 := src_ints (SrcAt.of_row row)
   have hlen : ((exL l 5).map Int.ofNat).length ≤ 1000000 := by have := exL_len l 5; rw [List.length_map]; omega
   have EW := Lib.hid (exW_wnt l)
   rw [List.length_map] at hd5
   obtain ⟨ax, cx, rfl⟩ := hd5.form
   have SM := Lib.hid (Same_ok ((exL l 5).map Int.ofNat) hlen H1.out.rep H1.out.qk H1.out.gl H1.out.off (dv := .slice ax (exL l 5).length cx) (by rw [List.length_map]; exact hd5) HC.out)
   rw [EW.out] at SM
   clear kp row hk hlt NC hd5 hlen EW
   generalize (exL l 5).length = lx at *
   go_wp2_with fail
   refine SM.out.mono ?_
   intro e w' o
   obtain ⟨r, M2, L2, rfl, _, h2⟩ := H1.out.step o
   have RET := Lib.hid (h2.ret (B0 := B) (.head _) (fun x hx => .tail _ hx) (Nat.le_refl _))
   clear h2 o SM
   go_wp2_with fail
   go_ret
   exact RET.out

set_option maxHeartbeats 1000000 in
theorem TId_ok {p c : Nat} {M : Mgr} {L : Lay} {B : List (Int × Bfn)} {w : World} (R : Rep w p M L) (q : Qk 220 c M B) (g : Gl w) (ho : ¬ L.at p 0) (hc : c ≤ 500000000000) :
  Calls Tryz.prog 11 #[ptr p] w (OpQ p 220 (c + 20000000) L w (fun a => smR (exW []) a 104) B) := by
 have EX := Lib.hid (except_ok (p := p) [] (by simp) R q g ho (dv := .slice none 0 0) ⟨none, 0, rfl, rfl, .inl rfl⟩ hc)
 have H := Lib.hid (Hf.start R q g ho)
 clear R q g ho
 go_enter Tryz.func11, Tryz.ntmps11
 go_wp2_with fail
 refine EX.out.mono ?_
 intro e w' o
 obtain ⟨r, M2, L2, rfl, _, h2⟩ := H.out.step o
 have RET := Lib.hid (h2.ret (B0 := B) (.head _) (fun x hx => .tail _ hx) (Nat.le_refl _))
 clear h2 o EX
 go_wp2_with fail
 go_ret
 exact RET.out

set_option maxHeartbeats 1000000 in
theorem value_ok {p c : Nat} {M : Mgr} {L : Lay} {B : List (Int × Bfn)} (k : Nat) (hk : k < 5) (nx : Bool) (x : Nat) (hx : x < 4294967296) {w : World} (R : Rep w p M L) (q : Qk 220 c M B) (g : Gl w) (ho : ¬ L.at p 0) (hc : c ≤ 500000000000) :
  Calls Tryz.prog 29 #[ptr p, .int .i64 (k : Int), .bool nx, .int .u32 (x : Int)] w (OpQ p 220 (c + 10000000) L w (rgF k nx x x) B) := by
 have RG := Lib.hid (Range_ok k hk nx x x hx hx R q g ho hc)
 have H := Lib.hid (Hf.start R q g ho)
 clear R q g ho
 go_enter Tryz.func29, Tryz.ntmps29
 go_wp2_with fail
 refine RG.out.mono ?_
 intro e w' o
 obtain ⟨r, M2, L2, rfl, _, h2⟩ := H.out.step o
 have RET := Lib.hid (h2.ret (B0 := B) (.head _) (fun x hx => .tail _ hx) (Nat.le_refl _))
 clear h2 o RG
 go_wp2_with fail
 go_ret
 exact RET.out

end Go.Proofs.YtdgnbbmgcgfibaaGreatDoor

namespace Go.Proofs.YtdgnbbmgcgfibaaGreatDoor
open Go.RowKit

/-! ### which variables a function reads, for sets of given variables -/
def ltD (d : Nat) : Nat → Bool := fun v => decide (v < d)
theorem mx_lt (d : Nat) (a b : Nat → Bool) (v : Nat) : mxD (ltD d) a b v = if v < d then a v else b v := by
 unfold mxD ltD
 by_cases h : v < d <;> simp [h]
theorem Rd.mx_below {lo hi d : Nat} {F : Bfn} (h : Rd lo hi F) (hd : hi ≤ d) (a b : Nat → Bool) : F (mxD (ltD d) a b) = F a := h _ _ (fun v _ hv => by rw [mx_lt, if_pos (by omega)])
theorem Rd.mx_above {lo hi d : Nat} {F : Bfn} (h : Rd lo hi F) (hd : d ≤ lo) (a b : Nat → Bool) : F (mxD (ltD d) a b) = F b := h _ _ (fun v hv _ => by rw [mx_lt, if_neg (by omega)])
theorem PreD.lt (d k : Nat) (nx : Bool) : ∃ m, PreD (ltD d) k nx m := by
 refine ⟨min (fw k) ((d + 1 - fvar k 0 nx) / 2), Nat.min_le_left _ _, fun bit hb => ?_⟩
 unfold ltD
 have e1 := fvar_eq k 0 nx
 have e2 := fvar_eq k bit nx
 rw [decide_eq_true_eq]
 omega

/-! ### the relation of equal fields -/
def samF (W : Nat → Bool) : Bfn := fun a => smR W a 104
theorem samF_iff (W : Nat → Bool) (a : Nat → Bool) : samF W a = true ↔ ∀ b, b < 104 → W (fieldOf b) = true → a (hvar b false) = a (hvar b true) := by
 unfold samF
 rw [smR_eq W a 104 (Nat.le_refl _)]
 exact ⟨fun h b hb => h b (by omega) hb, fun h b _ hb => h b hb⟩
theorem samF_rd (W : Nat → Bool) : Rd 12 220 (samF W) := fun a b hab => by
 rw [Bool.eq_iff_iff, samF_iff, samF_iff]
 have e : ∀ x, x < 104 → ∀ nx, a (hvar x nx) = b (hvar x nx) := fun x hx nx => hab _ (by unfold hvar; omega) (hvar_lt hx nx)
 exact ⟨fun h x hx hw => by rw [← e x hx, ← e x hx]; exact h x hx hw, fun h x hx hw => by rw [e x hx, e x hx]; exact h x hx hw⟩
def samA (d : Nat) (W : Nat → Bool) (a : Nat → Bool) : Bool := (List.range 104).all fun b => !(W (fieldOf b) && decide (hvar b true < d)) || a (hvar b false) == a (hvar b true)
theorem samA_iff (d : Nat) (W : Nat → Bool) (a : Nat → Bool) : samA d W a = true ↔ ∀ b, b < 104 → W (fieldOf b) = true → hvar b true < d → a (hvar b false) = a (hvar b true) := by
 unfold samA
 rw [List.all_eq_true]
 simp only [List.mem_range, Bool.or_eq_true, Bool.not_eq_true', Bool.and_eq_false_iff, decide_eq_false_iff_not, beq_iff_eq]
 constructor
 ·intro h b hb hw hd
  rcases h b hb with (h | h) | h
  ·rw [hw] at h; cases h
  ·exact absurd hd h
  ·exact h
 ·intro h b hb
  by_cases hw : W (fieldOf b) = true
  ·by_cases hd : hvar b true < d
   ·exact .inr (h b hb hw hd)
   ·exact .inl (.inr hd)
  ·exact .inl (.inl (by simpa using hw))
theorem JA.sames (d : Nat) (Ws : List (Nat → Bool)) : JA (ltD d) (Ws.map samF) (2 * 2 ^ Ws.length) := by
 obtain ⟨st, h1, h2⟩ := vec (samA d) Ws
 refine ⟨fun a => (if a (d - 1) = true then 1 else 0) * 2 ^ Ws.length + st a, fun a => ?_, fun a a' e F hF b => ?_⟩
 ·have := h1 a
  dsimp only
  split <;> omega
 ·obtain ⟨e1, e2⟩ := code2 (h1 a) (h1 a') e
  have e3 : a (d - 1) = a' (d - 1) := by
   cases h : a (d - 1) <;> cases h' : a' (d - 1) <;> simp [h, h'] at e1 ⊢
  obtain ⟨W, hW, rfl⟩ := List.mem_map.1 hF
  have e4 := h2 a a' e2 W hW
  have key : ∀ x : Nat → Bool, samF W (mxD (ltD d) x b) = true ↔ samA d W x = true ∧ ∀ i, i < 104 → W (fieldOf i) = true → ¬ hvar i true < d → (if hvar i false < d then x (d - 1) else b (hvar i false)) = b (hvar i true) := fun x => by
   rw [samF_iff, samA_iff]
   constructor
   ·intro h
    refine ⟨fun i hi hw hd => ?_, fun i hi hw hd => ?_⟩
    ·have := h i hi hw
     rwa [mx_lt, mx_lt, if_pos hd, if_pos (by unfold hvar at hd ⊢; simp at hd ⊢; omega)] at this
    ·have := h i hi hw
     rw [mx_lt, mx_lt, if_neg hd] at this
     by_cases hc : hvar i false < d
     ·rw [if_pos hc] at this ⊢
      rwa [show d - 1 = hvar i false by unfold hvar at hd hc ⊢; simp at hd hc ⊢; omega]
     ·rw [if_neg hc] at this ⊢; exact this
   ·rintro ⟨h, h'⟩ i hi hw
    rw [mx_lt, mx_lt]
    by_cases hd : hvar i true < d
    ·rw [if_pos hd, if_pos (by unfold hvar at hd ⊢; simp at hd ⊢; omega)]
     exact h i hi hw hd
    ·have := h' i hi hw hd
     rw [if_neg hd]
     by_cases hc : hvar i false < d
     ·rw [if_pos hc] at this ⊢
      rwa [show d - 1 = hvar i false by unfold hvar at hd hc ⊢; simp at hd hc ⊢; omega] at this
     ·rw [if_neg hc] at this ⊢; exact this
  rw [Bool.eq_iff_iff, key, key, e3, e4]

/-! ### rules -/
structure Ru where
 pm : Bool
 pr : Int
 sa : Nat
 sm : Nat
 da : Nat
 dm : Nat
 sl : Int
 sh : Int
 dl : Int
 dh : Int
def wnP (lo hi : Int) : Nat × Nat := if max lo 0 ≤ min hi 65535 then ((max lo 0).toNat, (min hi 65535).toNat) else (1, 0)
def wnF (k : Nat) (lo hi : Int) : Bfn := rgF k false (wnP lo hi).1 (wnP lo hi).2
def Ru.wi (x : Ru) : Bfn := fun a => wiF 0 false x.sa x.sm 32 a && wiF 1 false x.da x.dm 32 a
def Ru.cu (x : Ru) : Bfn := fun a => x.wi a && (decide (x.pr = -1) || wnF 2 x.pr x.pr a)
def Ru.c1 (x : Ru) : Bfn := fun a => x.cu a && wnF 3 x.sl x.sh a
def Ru.F (x : Ru) : Bfn := fun a => x.c1 a && wnF 4 x.dl x.dh a
theorem cuF_false : IsCube (fun _ => false) := ⟨[(0, true), (0, false)], funext fun a => by unfold cuF; simp⟩
theorem Ru.wi_cube (x : Ru) : IsCube x.wi := (IsCube.wild _ _ _ _ _).and (IsCube.wild _ _ _ _ _)
theorem wn_cube {x : Int} : IsCube (wnF 2 x x) := by
 unfold wnF wnP
 split
 ·rename_i h
  dsimp only
  rw [show (min x 65535).toNat = (max x 0).toNat by omega]
  by_cases hx : (max x 0).toNat < 2 ^ fw 2
  ·exact IsCube.val hx
  ·exact cuF_false.congr (fun a => rgF_no (.inr (by omega)) a)
 ·exact cuF_false.congr (fun a => rgF_no (.inl (by simp)) a)
theorem Ru.cu_cube (x : Ru) : IsCube x.cu := by
 refine x.wi_cube.and ?_
 by_cases h : x.pr = -1
 ·exact IsCube.top.congr (fun a => by simp [h])
 ·exact (wn_cube (x := x.pr)).congr (fun a => by simp [h])
theorem wn_rd (k : Nat) (lo hi : Int) : Rd (fvar k 0 false) (fend k) (wnF k lo hi) := rgF_rd _ _
theorem Ru.wi_rd (x : Ru) : Rd 12 140 x.wi := by
 have h1 := wiF_rd (k := 0) (nx := false) x.sa x.sm 32 (by decide)
 have h2 := wiF_rd (k := 1) (nx := false) x.da x.dm 32 (by decide)
 exact Rd.op (fun p q => p && q) (h1.mono (by decide) (by decide)) (h2.mono (by decide) (by decide))
theorem Ru.cu_rd (x : Ru) : Rd 12 156 x.cu := by
 have h2 : Rd 12 156 (fun a => decide (x.pr = -1) || wnF 2 x.pr x.pr a) := Rd.op (fun p q => p || q) (Rd.const 12 156 (decide (x.pr = -1))) ((wn_rd 2 x.pr x.pr).mono (by decide) (by decide))
 exact Rd.op (fun p q => p && q) (x.wi_rd.mono (Nat.le_refl _) (by decide)) h2
theorem Ru.c1_rd (x : Ru) : Rd 12 188 x.c1 := Rd.op (fun p q => p && q) (x.cu_rd.mono (Nat.le_refl _) (by decide)) ((wn_rd 3 _ _).mono (by decide) (by decide))
theorem Ru.F_rd (x : Ru) : Rd 12 220 x.F := Rd.op (fun p q => p && q) (x.c1_rd.mono (Nat.le_refl _) (by decide)) ((wn_rd 4 _ _).mono (by decide) (by decide))
theorem wn_st {k : Nat} (hk : k < 5) (lo hi : Int) : PSt 220 (wnF k lo hi) 9 := rgF_nine hk _ _
theorem Ru.c1_st (x : Ru) : PSt 220 x.c1 12 := (PSt.and_above (x.cu_rd) (wn_rd 3 x.sl x.sh) (by decide) (by decide) (by decide) (PSt.cube x.cu_cube) (wn_st (by decide) _ _)).mono (by decide)
theorem Ru.F_st (x : Ru) : PSt 220 x.F 22 := (PSt.and_above (x.c1_rd) (wn_rd 4 x.dl x.dh) (by decide) (by decide) (by decide) x.c1_st (wn_st (by decide) _ _)).mono (by decide)

def aclF : List Ru → Bfn
 | [] => fun _ => false
 | x :: l => fun a => if x.F a = true then x.pm else aclF l a

/-! ### many rules together -/
theorem JA.rules (d : Nat) (l : List Ru) : JA (ltD d) (l.map Ru.F) (2 ^ l.length * (4 * l.length + 2)) := by
 obtain ⟨m3, p3⟩ := PreD.lt d 3 false
 obtain ⟨m4, p4⟩ := PreD.lt d 4 false
 by_cases h : d ≤ 188
 ·have h1 : JA (ltD d) (l.map Ru.cu) (2 ^ l.length) := (JA.cubes (fun F hF => by obtain ⟨x, _, rfl⟩ := List.mem_map.1 hF; exact x.cu_cube)).mono (by simp)
  have h2 : JA (ltD d) (l.map fun x => wnF 3 x.sl x.sh) (4 * l.length + 2) := by
   have := JA.ranges p3 (l.map fun x => wnP x.sl x.sh)
   rw [List.map_map, List.length_map] at this
   exact this
  have h3 : JA (ltD d) (l.map fun x => wnF 4 x.dl x.dh) 1 := JA.none (fun F hF a b => by
   obtain ⟨x, _, rfl⟩ := List.mem_map.1 hF
   exact (wn_rd 4 x.dl x.dh).mx_above h a b)
  refine (((h1.app h2).app h3).fns (gs := l.map Ru.F) (fun G hG a a' e => ?_)).mono (by omega)
  obtain ⟨x, hx, rfl⟩ := List.mem_map.1 hG
  have e1 := e x.cu (List.mem_append.2 (.inl (List.mem_append.2 (.inl (List.mem_map.2 ⟨x, hx, rfl⟩)))))
  have e2 := e (wnF 3 x.sl x.sh) (List.mem_append.2 (.inl (List.mem_append.2 (.inr (List.mem_map.2 ⟨x, hx, rfl⟩)))))
  have e3 := e (wnF 4 x.dl x.dh) (List.mem_append.2 (.inr (List.mem_map.2 ⟨x, hx, rfl⟩)))
  show (x.cu a && wnF 3 x.sl x.sh a && wnF 4 x.dl x.dh a) = (x.cu a' && wnF 3 x.sl x.sh a' && wnF 4 x.dl x.dh a')
  rw [e1, e2, e3]
 ·have h1 : JA (ltD d) (l.map Ru.c1) (2 ^ l.length) := (JA.done (fun F hF a b => by
   obtain ⟨x, _, rfl⟩ := List.mem_map.1 hF
   exact x.c1_rd.mx_below (by omega) a b)).mono (by simp)
  have h2 : JA (ltD d) (l.map fun x => wnF 4 x.dl x.dh) (4 * l.length + 2) := by
   have := JA.ranges p4 (l.map fun x => wnP x.dl x.dh)
   rw [List.map_map, List.length_map] at this
   exact this
  refine (h1.app h2).fns (gs := l.map Ru.F) (fun G hG a a' e => ?_)
  obtain ⟨x, hx, rfl⟩ := List.mem_map.1 hG
  have e1 := e x.c1 (List.mem_append.2 (.inl (List.mem_map.2 ⟨x, hx, rfl⟩)))
  have e2 := e (wnF 4 x.dl x.dh) (List.mem_append.2 (.inr (List.mem_map.2 ⟨x, hx, rfl⟩)))
  show (x.c1 a && wnF 4 x.dl x.dh a) = (x.c1 a' && wnF 4 x.dl x.dh a')
  rw [e1, e2]
theorem aclF_det : ∀ (l : List Ru) (a a' : Nat → Bool), (∀ x, x ∈ l → x.F a = x.F a') → aclF l a = aclF l a'
 | [], _, _, _ => rfl
 | x :: l, a, a', h => by
  show (if x.F a = true then x.pm else aclF l a) = (if x.F a' = true then x.pm else aclF l a')
  rw [h x (List.mem_cons_self ..), aclF_det l a a' (fun y hy => h y (List.mem_cons_of_mem _ hy))]
theorem aclF_rd (l : List Ru) : Rd 12 220 (aclF l) := fun a b hab => aclF_det l a b (fun x _ => x.F_rd a b hab)
theorem aclF_st (l : List Ru) : PSt 220 (aclF l) (2 ^ l.length * (4 * l.length + 2)) :=
 PSt.of_JA ((aclF_rd l).mono (Nat.zero_le _) (Nat.le_refl _)) (fun d _ => (JA.rules d l).fns (fun G hG a a' e => by
  rw [List.mem_singleton] at hG
  subst hG
  exact aclF_det l a a' (fun x hx => e x.F (List.mem_map.2 ⟨x, hx, rfl⟩))))

end Go.Proofs.YtdgnbbmgcgfibaaGreatDoor

namespace Go.Proofs.YtdgnbbmgcgfibaaGreatDoor
open Go.RowKit

theorem JA.rules_low (d : Nat) (hd : d ≤ 156) (l : List Ru) : JA (ltD d) (l.map Ru.F) (2 ^ l.length) := by
 have h1 : JA (ltD d) (l.map Ru.cu) (2 ^ l.length) := (JA.cubes (fun F hF => by obtain ⟨x, _, rfl⟩ := List.mem_map.1 hF; exact x.cu_cube)).mono (by simp)
 have h2 : JA (ltD d) (l.map fun x => wnF 3 x.sl x.sh) 1 := JA.none (fun F hF a b => by
  obtain ⟨x, _, rfl⟩ := List.mem_map.1 hF
  exact (wn_rd 3 x.sl x.sh).mx_above hd a b)
 have h3 : JA (ltD d) (l.map fun x => wnF 4 x.dl x.dh) 1 := JA.none (fun F hF a b => by
  obtain ⟨x, _, rfl⟩ := List.mem_map.1 hF
  exact (wn_rd 4 x.dl x.dh).mx_above (show d ≤ 188 by omega) a b)
 refine (((h1.app h2).app h3).fns (gs := l.map Ru.F) (fun G hG a a' e => ?_)).mono (by omega)
 obtain ⟨x, hx, rfl⟩ := List.mem_map.1 hG
 have e1 := e x.cu (List.mem_append.2 (.inl (List.mem_append.2 (.inl (List.mem_map.2 ⟨x, hx, rfl⟩)))))
 have e2 := e (wnF 3 x.sl x.sh) (List.mem_append.2 (.inl (List.mem_append.2 (.inr (List.mem_map.2 ⟨x, hx, rfl⟩)))))
 have e3 := e (wnF 4 x.dl x.dh) (List.mem_append.2 (.inr (List.mem_map.2 ⟨x, hx, rfl⟩)))
 show (x.cu a && wnF 3 x.sl x.sh a && wnF 4 x.dl x.dh a) = (x.cu a' && wnF 3 x.sl x.sh a' && wnF 4 x.dl x.dh a')
 rw [e1, e2, e3]

inductive Ent
 | stat (i o : Nat)
 | pool (any : Bool) (rs : List Ru) (lo hi : Nat)
 | fwd (i pr ip o op : Nat)
def Ent.ok : Ent → Prop
 | .stat i o => i < 4294967296 ∧ o < 4294967296
 | .pool _ rs lo hi => rs.length ≤ 4 ∧ lo < 4294967296 ∧ hi < 4294967296
 | .fwd i pr ip o op => i < 4294967296 ∧ o < 4294967296 ∧ pr < 256 ∧ ip < 65536 ∧ op < 65536

/-! ### sources -/
def Ent.sapp : Ent → Bfn
 | .stat i _ => rgF 0 false i i
 | .pool any rs _ _ => if any = true then fun _ => true else aclF rs
 | .fwd i pr ip _ _ => allF [rgF 0 false i i, rgF 2 false pr pr, rgF 3 false ip ip]
def Ent.schg : Ent → Bfn
 | .stat _ o => allF [samF (exW [0]), rgF 0 true o o]
 | .pool _ _ lo hi => allF [samF (exW [0]), rgF 0 true lo hi]
 | .fwd _ _ _ o op => allF [samF (exW [0, 3]), rgF 0 true o o, rgF 3 true op op]
def srcF : List Ent → Bfn
 | [] => samF (exW [])
 | e :: l => fun a => if e.sapp a = true then e.schg a else srcF l a
def Ent.rus : Ent → List Ru
 | .pool _ rs _ _ => rs
 | _ => []
def Ent.scu : Ent → List Bfn
 | .stat i o => [rgF 0 false i i, rgF 0 true o o]
 | .fwd i pr ip o op => [allF [rgF 0 false i i, rgF 2 false pr pr, rgF 3 false ip ip], allF [rgF 0 true o o, rgF 3 true op op]]
 | .pool _ _ _ _ => []
def Ent.rgs : Ent → List (Nat × Nat)
 | .pool _ _ lo hi => [(lo, hi)]
 | _ => []
theorem all_cube : ∀ l : List Bfn, (∀ F, F ∈ l → IsCube F) → IsCube (allF l)
 | [], _ => IsCube.top
 | F :: l, h => (h F (List.mem_cons_self ..)).and (all_cube l (fun G hG => h G (List.mem_cons_of_mem _ hG)))
theorem Ent.scu_cube {e : Ent} (h : e.ok) : ∀ F, F ∈ e.scu → IsCube F := fun F hF => by
 cases e with
 | stat i o =>
  simp only [Ent.scu, List.mem_cons, List.not_mem_nil, or_false] at hF
  rcases hF with rfl | rfl
  ·exact IsCube.val h.1
  ·exact IsCube.val h.2
 | pool => cases hF
 | fwd i pr ip o op =>
  obtain ⟨h1, h2, h3, h4, h5⟩ := h
  simp only [Ent.scu, List.mem_cons, List.not_mem_nil, or_false] at hF
  rcases hF with rfl | rfl
  ·refine all_cube _ (fun G hG => ?_)
   simp only [List.mem_cons, List.not_mem_nil, or_false] at hG
   rcases hG with rfl | rfl | rfl
   ·exact IsCube.val h1
   ·exact IsCube.val h3
   ·exact IsCube.val h4
  ·refine all_cube _ (fun G hG => ?_)
   simp only [List.mem_cons, List.not_mem_nil, or_false] at hG
   rcases hG with rfl | rfl
   ·exact IsCube.val h2
   ·exact IsCube.val h5
def sW : List (Nat → Bool) := [exW [], exW [0], exW [0, 3]]
def srcP (l : List Ent) : List Bfn := (l.flatMap Ent.rus).map Ru.F ++ l.flatMap Ent.scu ++ (l.flatMap Ent.rgs).map (fun x => rgF 0 true x.1 x.2) ++ sW.map samF
theorem srcF_det : ∀ (l : List Ent) (a a' : Nat → Bool), (∀ F, F ∈ srcP l → F a = F a') → srcF l a = srcF l a'
 | [], a, a', h => h (samF (exW [])) (by simp [srcP, sW])
 | e :: l, a, a', h => by
  have hl : ∀ F, F ∈ srcP l → F a = F a' := fun F hF => h F (by
   simp only [srcP, List.flatMap_cons, List.map_append, List.mem_append] at hF ⊢
   rcases hF with ((hF | hF) | hF) | hF
   ·exact .inl (.inl (.inl (.inr hF)))
   ·exact .inl (.inl (.inr (.inr hF)))
   ·exact .inl (.inr (.inr hF))
   ·exact .inr hF)
  have ih := srcF_det l a a' hl
  have s0 : samF (exW [0]) a = samF (exW [0]) a' := h _ (by simp [srcP, sW])
  have s1 : samF (exW [0, 3]) a = samF (exW [0, 3]) a' := h _ (by simp [srcP, sW])
  have hr : ∀ x, x ∈ e.rus → x.F a = x.F a' := fun x hx => h _ (by
   simp only [srcP, List.flatMap_cons, List.map_append, List.mem_append]
   exact .inl (.inl (.inl (.inl (List.mem_map.2 ⟨x, hx, rfl⟩)))))
  have hc : ∀ F, F ∈ e.scu → F a = F a' := fun F hF => h _ (by
   simp only [srcP, List.flatMap_cons, List.map_append, List.mem_append]
   exact .inl (.inl (.inr (.inl hF))))
  have hg : ∀ x, x ∈ e.rgs → rgF 0 true x.1 x.2 a = rgF 0 true x.1 x.2 a' := fun x hx => h _ (by
   simp only [srcP, List.flatMap_cons, List.map_append, List.mem_append]
   exact .inl (.inr (.inl (List.mem_map.2 ⟨x, hx, rfl⟩))))
  show (if e.sapp a = true then e.schg a else srcF l a) = (if e.sapp a' = true then e.schg a' else srcF l a')
  have k1 : e.sapp a = e.sapp a' := by
   cases e with
   | stat i o => exact hc _ (List.mem_cons_self ..)
   | pool any rs lo hi =>
    cases any
    ·exact aclF_det rs a a' hr
    ·rfl
   | fwd i pr ip o op => exact hc _ (List.mem_cons_self ..)
  have k2 : e.schg a = e.schg a' := by
   cases e with
   | stat i o =>
    have := hc (rgF 0 true o o) (by simp [Ent.scu])
    simp only [Ent.schg, allF]
    rw [s0, this]
   | pool any rs lo hi =>
    have := hg (lo, hi) (by simp [Ent.rgs])
    simp only [Ent.schg, allF]
    rw [s0, this]
   | fwd i pr ip o op =>
    have := hc (allF [rgF 0 true o o, rgF 3 true op op]) (by simp [Ent.scu])
    simp only [Ent.schg, allF] at this ⊢
    rw [s1, this]
  rw [k1, k2, ih]
theorem Ent.few {e : Ent} (h : e.ok) : e.rus.length + e.scu.length ≤ 4 ∧ e.rgs.length ≤ 1 := by
 cases e with
 | stat => exact ⟨by simp [Ent.rus, Ent.scu], by simp [Ent.rgs]⟩
 | pool any rs lo hi => exact ⟨by have := h.1; simpa [Ent.rus, Ent.scu] using this, by simp [Ent.rgs]⟩
 | fwd => exact ⟨by simp [Ent.rus, Ent.scu], by simp [Ent.rgs]⟩
theorem src_few : ∀ l : List Ent, (∀ e, e ∈ l → e.ok) → (l.flatMap Ent.rus).length + (l.flatMap Ent.scu).length ≤ 4 * l.length ∧ (l.flatMap Ent.rgs).length ≤ l.length
 | [], _ => ⟨Nat.le_refl _, Nat.le_refl _⟩
 | e :: l, h => by
  obtain ⟨h1, h2⟩ := src_few l (fun x hx => h x (List.mem_cons_of_mem _ hx))
  obtain ⟨h3, h4⟩ := Ent.few (h e (List.mem_cons_self ..))
  simp only [List.flatMap_cons, List.length_append, List.length_cons]
  exact ⟨by omega, by omega⟩
def SB (j : Nat) : Nat := 2 ^ (4 * j) * (16 * j + 2) * 2 ^ j * 16
theorem src_rd : ∀ l : List Ent, Rd 0 220 (srcF l)
 | [] => (samF_rd _).mono (Nat.zero_le _) (Nat.le_refl _)
 | e :: l => fun a b hab => by
  have r : ∀ k nx lo hi, k < 5 → rgF k nx lo hi a = rgF k nx lo hi b := fun k nx lo hi hk => rgF_rd lo hi a b (fun v _ hv => hab v (Nat.zero_le _) (by have := ff_fw hk; unfold fend at hv; omega))
  have s : ∀ W, samF W a = samF W b := fun W => samF_rd W a b (fun v _ hv => hab v (Nat.zero_le _) hv)
  show (if e.sapp a = true then e.schg a else srcF l a) = (if e.sapp b = true then e.schg b else srcF l b)
  have k1 : e.sapp a = e.sapp b := by
   cases e with
   | stat i o => exact r 0 _ _ _ (by omega)
   | pool any rs lo hi =>
    cases any
    ·exact aclF_rd rs a b (fun v _ hv => hab v (Nat.zero_le _) hv)
    ·rfl
   | fwd i pr ip o op => simp only [Ent.sapp, allF]; rw [r 0 _ _ _ (by omega), r 2 _ _ _ (by omega), r 3 _ _ _ (by omega)]
  have k2 : e.schg a = e.schg b := by
   cases e with
   | stat i o => simp only [Ent.schg, allF]; rw [s, r 0 _ _ _ (by omega)]
   | pool any rs lo hi => simp only [Ent.schg, allF]; rw [s, r 0 _ _ _ (by omega)]
   | fwd i pr ip o op => simp only [Ent.schg, allF]; rw [s, r 0 _ _ _ (by omega), r 3 _ _ _ (by omega)]
  rw [k1, k2, src_rd l a b hab]
theorem JA.src (d : Nat) (l : List Ent) (h : ∀ e, e ∈ l → e.ok) : JA (ltD d) (srcP l) (SB l.length) := by
 obtain ⟨n1, n2⟩ := src_few l h
 have hc : JA (ltD d) (l.flatMap Ent.scu) (2 ^ (l.flatMap Ent.scu).length) := JA.cubes (fun F hF => by
  obtain ⟨e, he, hF⟩ := List.mem_flatMap.1 hF
  exact Ent.scu_cube (h e he) F hF)
 have hs := JA.sames d sW
 have p2 : (2 ^ (l.flatMap Ent.rus).length * 2 ^ (l.flatMap Ent.scu).length) ≤ 2 ^ (4 * l.length) := by
  rw [← Nat.pow_add]; exact Nat.pow_le_pow_right (by omega) n1
 by_cases hd : d ≤ 76
 ·have hr := JA.rules_low d (by omega) (l.flatMap Ent.rus)
  obtain ⟨m, pm⟩ := PreD.lt d 0 true
  have hg := JA.ranges pm (l.flatMap Ent.rgs)
  refine (((hr.app hc).app hg).app hs).mono ?_
  have q1 : 4 * (l.flatMap Ent.rgs).length + 2 ≤ 16 * l.length + 2 := by omega
  have q2 : 1 ≤ 2 ^ l.length := Nat.one_le_two_pow
  have := Nat.mul_le_mul p2 q1
  have t := Nat.mul_le_mul (Nat.mul_le_mul this q2) (Nat.le_refl 16)
  rw [Nat.mul_one] at t
  exact t
 ·have hr := JA.rules d (l.flatMap Ent.rus)
  have hg : JA (ltD d) ((l.flatMap Ent.rgs).map (fun x => rgF 0 true x.1 x.2)) (2 ^ (l.flatMap Ent.rgs).length) := (JA.done (fun F hF a b => by
   obtain ⟨x, _, rfl⟩ := List.mem_map.1 hF
   exact (rgF_rd (k := 0) (nx := true) x.1 x.2).mx_below (show 76 ≤ d by omega) a b)).mono (by simp)
  refine (((hr.app hc).app hg).app hs).mono ?_
  have q1 : 4 * (l.flatMap Ent.rus).length + 2 ≤ 16 * l.length + 2 := by omega
  have q2 : 2 ^ (l.flatMap Ent.rgs).length ≤ 2 ^ l.length := Nat.pow_le_pow_right (by omega) n2
  have t := Nat.mul_le_mul (Nat.mul_le_mul (Nat.mul_le_mul p2 q1) q2) (Nat.le_refl 16)
  have e : 2 ^ (l.flatMap Ent.rus).length * (4 * (l.flatMap Ent.rus).length + 2) * 2 ^ (l.flatMap Ent.scu).length = 2 ^ (l.flatMap Ent.rus).length * 2 ^ (l.flatMap Ent.scu).length * (4 * (l.flatMap Ent.rus).length + 2) := by
   rw [Nat.mul_assoc, Nat.mul_comm (4 * _ + 2), ← Nat.mul_assoc]
  show 2 ^ (l.flatMap Ent.rus).length * (4 * (l.flatMap Ent.rus).length + 2) * 2 ^ (l.flatMap Ent.scu).length * 2 ^ (l.flatMap Ent.rgs).length * (2 * 2 ^ sW.length) ≤ SB l.length
  rw [e]
  exact t
theorem src_st (l : List Ent) (h : ∀ e, e ∈ l → e.ok) : PSt 220 (srcF l) (SB l.length) :=
 PSt.of_JA (src_rd l) (fun d _ => (JA.src d l h).fns (fun G hG a a' e => by
  rw [List.mem_singleton] at hG
  subst hG
  exact srcF_det l a a' e))

/-! ### destinations -/
def Ent.dapp : Ent → Bfn
 | .stat _ o => rgF 1 false o o
 | .pool _ _ _ _ => fun _ => false
 | .fwd _ pr _ o op => allF [rgF 1 false o o, rgF 2 false pr pr, rgF 4 false op op]
def Ent.dchg : Ent → Bfn
 | .stat i _ => allF [samF (exW [1]), rgF 1 true i i]
 | .pool _ _ _ _ => fun _ => false
 | .fwd i _ ip _ _ => allF [samF (exW [1, 4]), rgF 1 true i i, rgF 4 true ip ip]
def dstF : List Ent → Bfn
 | [] => samF (exW [])
 | e :: l => fun a => if e.dapp a = true then e.dchg a else dstF l a
def Ent.dcu : Ent → List Bfn
 | .stat i o => [rgF 1 false o o, rgF 1 true i i]
 | .fwd i pr ip o op => [allF [rgF 1 false o o, rgF 2 false pr pr, rgF 4 false op op], allF [rgF 1 true i i, rgF 4 true ip ip]]
 | .pool _ _ _ _ => []
theorem Ent.dcu_cube {e : Ent} (h : e.ok) : ∀ F, F ∈ e.dcu → IsCube F := fun F hF => by
 cases e with
 | stat i o =>
  simp only [Ent.dcu, List.mem_cons, List.not_mem_nil, or_false] at hF
  rcases hF with rfl | rfl
  ·exact IsCube.val h.2
  ·exact IsCube.val h.1
 | pool => cases hF
 | fwd i pr ip o op =>
  obtain ⟨h1, h2, h3, h4, h5⟩ := h
  simp only [Ent.dcu, List.mem_cons, List.not_mem_nil, or_false] at hF
  rcases hF with rfl | rfl
  ·refine all_cube _ (fun G hG => ?_)
   simp only [List.mem_cons, List.not_mem_nil, or_false] at hG
   rcases hG with rfl | rfl | rfl
   ·exact IsCube.val h2
   ·exact IsCube.val h3
   ·exact IsCube.val h5
  ·refine all_cube _ (fun G hG => ?_)
   simp only [List.mem_cons, List.not_mem_nil, or_false] at hG
   rcases hG with rfl | rfl
   ·exact IsCube.val h1
   ·exact IsCube.val h4
def dW : List (Nat → Bool) := [exW [], exW [1], exW [1, 4]]
def dstP (l : List Ent) : List Bfn := l.flatMap Ent.dcu ++ dW.map samF
theorem dstF_det : ∀ (l : List Ent) (a a' : Nat → Bool), (∀ F, F ∈ dstP l → F a = F a') → dstF l a = dstF l a'
 | [], a, a', h => h (samF (exW [])) (by simp [dstP, dW])
 | e :: l, a, a', h => by
  have ih := dstF_det l a a' (fun F hF => h F (by
   simp only [dstP, List.flatMap_cons, List.mem_append] at hF ⊢
   rcases hF with hF | hF
   ·exact .inl (.inr hF)
   ·exact .inr hF))
  have s0 : samF (exW [1]) a = samF (exW [1]) a' := h _ (by simp [dstP, dW])
  have s1 : samF (exW [1, 4]) a = samF (exW [1, 4]) a' := h _ (by simp [dstP, dW])
  have hc : ∀ F, F ∈ e.dcu → F a = F a' := fun F hF => h _ (by
   simp only [dstP, List.flatMap_cons, List.mem_append]
   exact .inl (.inl hF))
  show (if e.dapp a = true then e.dchg a else dstF l a) = (if e.dapp a' = true then e.dchg a' else dstF l a')
  have k1 : e.dapp a = e.dapp a' := by
   cases e with
   | stat i o => exact hc _ (List.mem_cons_self ..)
   | pool any rs lo hi => rfl
   | fwd i pr ip o op => exact hc _ (List.mem_cons_self ..)
  have k2 : e.dchg a = e.dchg a' := by
   cases e with
   | stat i o =>
    have := hc (rgF 1 true i i) (by simp [Ent.dcu])
    simp only [Ent.dchg, allF]
    rw [s0, this]
   | pool any rs lo hi => rfl
   | fwd i pr ip o op =>
    have := hc (allF [rgF 1 true i i, rgF 4 true ip ip]) (by simp [Ent.dcu])
    simp only [Ent.dchg, allF] at this ⊢
    rw [s1, this]
  rw [k1, k2, ih]
theorem dst_few : ∀ l : List Ent, (l.flatMap Ent.dcu).length ≤ 2 * l.length
 | [] => Nat.le_refl _
 | e :: l => by
  have h1 := dst_few l
  have h2 : e.dcu.length ≤ 2 := by cases e <;> simp [Ent.dcu]
  simp only [List.flatMap_cons, List.length_append, List.length_cons]
  omega
def DB (j : Nat) : Nat := 2 ^ (2 * j) * 16
theorem dst_rd : ∀ l : List Ent, Rd 0 220 (dstF l)
 | [] => (samF_rd _).mono (Nat.zero_le _) (Nat.le_refl _)
 | e :: l => fun a b hab => by
  have r : ∀ k nx lo hi, k < 5 → rgF k nx lo hi a = rgF k nx lo hi b := fun k nx lo hi hk => rgF_rd lo hi a b (fun v _ hv => hab v (Nat.zero_le _) (by have := ff_fw hk; unfold fend at hv; omega))
  have s : ∀ W, samF W a = samF W b := fun W => samF_rd W a b (fun v _ hv => hab v (Nat.zero_le _) hv)
  show (if e.dapp a = true then e.dchg a else dstF l a) = (if e.dapp b = true then e.dchg b else dstF l b)
  have k1 : e.dapp a = e.dapp b := by
   cases e with
   | stat i o => exact r 1 _ _ _ (by omega)
   | pool any rs lo hi => rfl
   | fwd i pr ip o op => simp only [Ent.dapp, allF]; rw [r 1 _ _ _ (by omega), r 2 _ _ _ (by omega), r 4 _ _ _ (by omega)]
  have k2 : e.dchg a = e.dchg b := by
   cases e with
   | stat i o => simp only [Ent.dchg, allF]; rw [s, r 1 _ _ _ (by omega)]
   | pool any rs lo hi => rfl
   | fwd i pr ip o op => simp only [Ent.dchg, allF]; rw [s, r 1 _ _ _ (by omega), r 4 _ _ _ (by omega)]
  rw [k1, k2, dst_rd l a b hab]
theorem JA.dst (d : Nat) (l : List Ent) (h : ∀ e, e ∈ l → e.ok) : JA (ltD d) (dstP l) (DB l.length) := by
 have n1 := dst_few l
 have hc : JA (ltD d) (l.flatMap Ent.dcu) (2 ^ (l.flatMap Ent.dcu).length) := JA.cubes (fun F hF => by
  obtain ⟨e, he, hF⟩ := List.mem_flatMap.1 hF
  exact Ent.dcu_cube (h e he) F hF)
 exact (hc.app (JA.sames d dW)).mono (Nat.mul_le_mul (Nat.pow_le_pow_right (by omega) n1) (Nat.le_refl 16))
theorem dst_st (l : List Ent) (h : ∀ e, e ∈ l → e.ok) : PSt 220 (dstF l) (DB l.length) :=
 PSt.of_JA (dst_rd l) (fun d _ => (JA.dst d l h).fns (fun G hG a a' e => by
  rw [List.mem_singleton] at hG
  subst hG
  exact dstF_det l a a' e))

end Go.Proofs.YtdgnbbmgcgfibaaGreatDoor
