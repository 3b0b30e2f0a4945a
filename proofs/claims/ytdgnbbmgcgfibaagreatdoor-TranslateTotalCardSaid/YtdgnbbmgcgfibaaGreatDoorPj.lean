/-
 Plain mathematics: how many cofactors the relations of translations have together where the next packet is one of a few.
-/
import Derived.Test.YtdgnbbmgcgfibaaGreatDoorTn
import Derived.Test.YtdgnbbmgcgfibaaGreatDoorRm
namespace Go.Proofs.YtdgnbbmgcgfibaaGreatDoor
open Go.RowKit

/-! ### the packet of an assignment -/
def pkA (nx : Bool) (a : Nat → Bool) : Pkt := ⟨fval 0 nx a, fval 1 nx a, (fval 2 nx a : Nat), (fval 3 nx a : Nat), (fval 4 nx a : Nat)⟩
theorem fvL (k : Nat) (nx : Bool) (a : Nat → Bool) : fval k nx a < 2 ^ fw k := bval_lt _ _
theorem pkA_ok (nx : Bool) (a : Nat → Bool) : (pkA nx a).ok := by
 have h0 := fvL 0 nx a
 have h1 := fvL 1 nx a
 have h2 := fvL 2 nx a
 have h3 := fvL 3 nx a
 have h4 := fvL 4 nx a
 rw [show fw 0 = 32 from rfl] at h0
 rw [show fw 1 = 32 from rfl] at h1
 rw [show fw 2 = 8 from rfl] at h2
 rw [show fw 3 = 16 from rfl] at h3
 rw [show fw 4 = 16 from rfl] at h4
 refine ⟨h0, h1, ⟨?_, ?_⟩, ⟨?_, ?_⟩, ?_, ?_⟩ <;> simp only [pkA] <;> omega
theorem pkA_f (nx : Bool) (a : Nat → Bool) {k : Nat} (hk : k < 5) : (pkA nx a).f k = fval k nx a := by
 have h := pkA_ok nx a
 rcases five hk with rfl | rfl | rfl | rfl | rfl
 ·rfl
 ·rfl
 ·have := u32_of (x := (fval 2 nx a : Int)) ⟨by omega, by have := h.h2.2; simp only [pkA] at this; omega⟩
  show u32 (fval 2 nx a : Int) = _
  omega
 ·have := u32_of (x := (fval 3 nx a : Int)) ⟨by omega, by have := h.h3.2; simp only [pkA] at this; omega⟩
  show u32 (fval 3 nx a : Int) = _
  omega
 ·have := u32_of (x := (fval 4 nx a : Int)) ⟨by omega, by have := h.h4.2; simp only [pkA] at this; omega⟩
  show u32 (fval 4 nx a : Int) = _
  omega
theorem pkA_bit (nx : Bool) (a : Nat → Bool) {u : Nat} (hu : u < 104) : (pkA nx a).bit u = a (hvar u nx) := by
 obtain ⟨k, b, hk, hb, rfl⟩ := fieldCut hu
 rw [Pkt.bit_at _ hk hb, pkA_f nx a hk]
 unfold fval
 rw [bval_testbit _ _ _ (by omega)]
 unfold fbit fvar
 rw [show fw k - 1 - (fw k - 1 - b) = b by omega]
theorem pk_bits {p q : Pkt} (hp : p.ok) (hq : q.ok) (h : ∀ u, u < 104 → p.bit u = q.bit u) : p = q :=
 pkt_ext hp hq (fun k hk => bitsEq (hp.lt hk) (hq.lt hk) (fun i hi => by
  have hff := ff_fw hk
  have h1 := h (ff k + (fw k - 1 - i)) (by omega)
  rw [p.bit_at hk (by omega), q.bit_at hk (by omega), show fw k - 1 - (fw k - 1 - i) = i by omega] at h1
  exact h1))
theorem pkA_iff {q : Pkt} (hq : q.ok) (nx : Bool) (a : Nat → Bool) : pkA nx a = q ↔ ∀ u, u < 104 → q.bit u = a (hvar u nx) := by
 constructor
 ·rintro rfl u hu
  exact pkA_bit nx a hu
 ·intro h
  exact pk_bits (pkA_ok nx a) hq (fun u hu => by rw [pkA_bit nx a hu, h u hu])
theorem hvar_split {v : Nat} (h1 : 12 ≤ v) (h2 : v < 220) : ∃ u nx, u < 104 ∧ v = hvar u nx := by
 by_cases e : (v - 12) % 2 = 0
 ·exact ⟨(v - 12) / 2, false, by omega, by unfold hvar; simp; omega⟩
 ·exact ⟨(v - 12) / 2, true, by omega, by unfold hvar; simp; omega⟩
theorem ePQ_pk (a : Nat → Bool) {v : Nat} (h1 : 12 ≤ v) (h2 : v < 220) : ePQ (pkA false a) (pkA true a) v = a v := by
 obtain ⟨u, nx, hu, rfl⟩ := hvar_split h1 h2
 unfold ePQ
 rw [gL_at _ h2, enc_bit]
 cases nx
 ·simp only [Bool.false_eq_true, if_false]; exact pkA_bit false a hu
 ·simp only [if_true]; exact pkA_bit true a hu
theorem pkA_congr {nx : Bool} {a b : Nat → Bool} (h : ∀ u, u < 104 → a (hvar u nx) = b (hvar u nx)) : pkA nx a = pkA nx b :=
 (pkA_iff (pkA_ok nx b) nx a).2 (fun u hu => by rw [pkA_bit nx b hu, h u hu])

/-! ### the relations at an assignment -/
theorem rg12 {k : Nat} (hk : k < 5) (nx : Bool) (lo hi : Nat) : Rd 12 220 (rgF k nx lo hi) :=
 (rgF_rd lo hi).mono (by rw [fvar_eq]; omega) (by have := ff_fw hk; unfold fend; omega)
theorem dst_rd12 : ∀ l : List Ent, Rd 12 220 (dstF l)
 | [] => samF_rd _
 | e :: l => fun a b hab => by
  have r : ∀ k nx lo hi, k < 5 → rgF k nx lo hi a = rgF k nx lo hi b := fun k nx lo hi hk => rg12 hk nx lo hi a b hab
  have s : ∀ W, samF W a = samF W b := fun W => samF_rd W a b hab
  show (if e.dapp a = true then e.dchg a else dstF l a) = (if e.dapp b = true then e.dchg b else dstF l b)
  have k1 : e.dapp a = e.dapp b := by
   cases e with
   | stat i o => exact r 1 _ _ _ (by omega)
   | pool any rs lo hi => rfl
   | fwd i pr ip o op => simp only [Ent.dapp, allF]; rw [r 1 _ _ _ (by omega), r 2 _ _ _ (by omega), r 4 _ _ _ (by omega)]
  have k2 : e.dchg a = e.dchg b := by
   cases e with
   | stat i o => simp only [Ent.dchg, allF]; rw [s, r 1 _ _ _ (by omega)]
   | pool any rs lo hi => rfl
   | fwd i pr ip o op => simp only [Ent.dchg, allF]; rw [s, r 1 _ _ _ (by omega), r 4 _ _ _ (by omega)]
  rw [k1, k2, dst_rd12 l a b hab]
theorem src_rd12 : ∀ l : List Ent, Rd 12 220 (srcF l)
 | [] => samF_rd _
 | e :: l => fun a b hab => by
  have r : ∀ k nx lo hi, k < 5 → rgF k nx lo hi a = rgF k nx lo hi b := fun k nx lo hi hk => rg12 hk nx lo hi a b hab
  have s : ∀ W, samF W a = samF W b := fun W => samF_rd W a b hab
  show (if e.sapp a = true then e.schg a else srcF l a) = (if e.sapp b = true then e.schg b else srcF l b)
  have k1 : e.sapp a = e.sapp b := by
   cases e with
   | stat i o => exact r 0 _ _ _ (by omega)
   | pool any rs lo hi =>
    cases any
    ·exact aclF_rd rs a b hab
    ·rfl
   | fwd i pr ip o op => simp only [Ent.sapp, allF]; rw [r 0 _ _ _ (by omega), r 2 _ _ _ (by omega), r 3 _ _ _ (by omega)]
  have k2 : e.schg a = e.schg b := by
   cases e with
   | stat i o => simp only [Ent.schg, allF]; rw [s, r 0 _ _ _ (by omega)]
   | pool any rs lo hi => simp only [Ent.schg, allF]; rw [s, r 0 _ _ _ (by omega)]
   | fwd i pr ip o op => simp only [Ent.schg, allF]; rw [s, r 0 _ _ _ (by omega), r 3 _ _ _ (by omega)]
  rw [k1, k2, src_rd12 l a b hab]
theorem dst_pk (ac : ByteArray → List Ru) (ts : List Tr) (hok : ∀ t, t ∈ ts → t.ok) (a : Nat → Bool) : dstF (ts.map (Tr.ent ac)) a = true ↔ pkA true a = pkDst ts (pkA false a) := by
 rw [← dst_enc ac ts hok (pkA_ok false a) (pkA_ok true a), dst_rd12 _ a (ePQ (pkA false a) (pkA true a)) (fun v h1 h2 => (ePQ_pk a h1 h2).symm)]
theorem src_pk (ac : ByteArray → List Ru) (ts : List Tr) (hok : ∀ t, t ∈ ts → t.ok) (a : Nat → Bool) : srcF (ts.map (Tr.ent ac)) a = true ↔ pkA true a ∈ pkSrc ac ts (pkA false a) := by
 rw [← src_enc ac ts hok (pkA_ok false a) (pkA_ok true a), src_rd12 _ a (ePQ (pkA false a) (pkA true a)) (fun v h1 h2 => (ePQ_pk a h1 h2).symm)]

/-! ### packets that agree with what is given -/
def agr (nx : Bool) (e : Nat) (y : Nat → Bool) (q : Pkt) : Prop := ∀ u, u < 104 → hvar u nx < e → q.bit u = y (hvar u nx)
def mxe (e : Nat) (y x : Nat → Bool) : Nat → Bool := fun v => if v < e then y v else x v
section
open Classical
end

/-! ### products -/
theorem mem_hvK {nx : Bool} {v : Nat} : v ∈ hvK nx 104 ↔ ∃ u, u < 104 ∧ v = hvar u nx := by
 unfold hvK
 rw [List.mem_map]
 constructor
 ·rintro ⟨u, hu, rfl⟩
  exact ⟨u, List.mem_range.1 hu, rfl⟩
 ·rintro ⟨u, hu, rfl⟩
  exact ⟨u, List.mem_range.2 hu, rfl⟩
theorem hvar_ne {u u' : Nat} {nx : Bool} : hvar u nx ≠ hvar u' (!nx) := by
 unfold hvar
 cases nx <;> simp <;> omega
theorem hv_mem {nx : Bool} {u : Nat} (hu : u < 104) : hvar u nx ∈ hvK nx 104 := mem_hvK.2 ⟨u, hu, rfl⟩
theorem hv_not {nx : Bool} {u : Nat} : hvar u (!nx) ∉ hvK nx 104 := fun h => by
 obtain ⟨u', _, e⟩ := mem_hvK.1 h
 exact hvar_ne e.symm
def gv (d' : Nat) (a' a : Nat → Bool) : Nat → Bool := fun v => if v < d' then a' v else a v
theorem pro_kept {M : Mgr} (hn : M.n = 220) (hp : M.Plain) (nx : Bool) (d' d : Nat) (a' a b x : Nat → Bool) : pkA (!nx) (M.mix d' a' (ovr (hvK nx 104) b (M.mix d a x))) = pkA (!nx) (mxe (max d' d) (gv d' a' a) x) :=
 pkA_congr (fun u hu => by
  have hl := hp (hvar u (!nx)) (by rw [hn]; exact hvar_lt hu _)
  unfold Mgr.mix ovr mxe gv
  rw [if_neg hv_not, hl]
  by_cases h1 : hvar u (!nx) < d'
  ·rw [if_pos h1, if_pos (show hvar u (!nx) < max d' d by omega), if_pos h1]
  ·rw [if_neg h1]
   show (if M.lev (hvar u (!nx)) < d then a (hvar u (!nx)) else x (hvar u (!nx))) = _
   rw [hl]
   by_cases h2 : hvar u (!nx) < d
   ·rw [if_pos h2, if_pos (show hvar u (!nx) < max d' d by omega), if_neg h1]
   ·rw [if_neg h2, if_neg (show ¬ hvar u (!nx) < max d' d by omega)])
theorem pro_free {M : Mgr} (hn : M.n = 220) (hp : M.Plain) (nx : Bool) (d' : Nat) (a' y : Nat → Bool) {q : Pkt} (hq : q.ok) : (∃ b, pkA nx (M.mix d' a' (ovr (hvK nx 104) b y)) = q) ↔ agr nx d' a' q := by
 have ev : ∀ b u, u < 104 → M.mix d' a' (ovr (hvK nx 104) b y) (hvar u nx) = if hvar u nx < d' then a' (hvar u nx) else b (hvar u nx) := fun b u hu => by
  have hl := hp (hvar u nx) (by rw [hn]; exact hvar_lt hu _)
  unfold Mgr.mix ovr
  rw [if_pos (hv_mem hu), hl]
 constructor
 ·rintro ⟨b, h⟩ u hu he
  have := (pkA_iff hq nx _).1 h u hu
  rw [ev b u hu, if_pos he] at this
  exact this
 ·intro h
  refine ⟨fun v => q.bit ((v - 12) / 2), (pkA_iff hq nx _).2 (fun u hu => ?_)⟩
  rw [ev _ u hu]
  by_cases he : hvar u nx < d'
  ·rw [if_pos he]; exact h u hu he
  ·rw [if_neg he]
   show q.bit u = q.bit ((hvar u nx - 12) / 2)
   congr 1
   unfold hvar
   cases nx <;> simp <;> omega
/-! ### images of few packets -/
theorem xch_pk (nx : Bool) (a : Nat → Bool) : pkA nx (fun v => a (xch v)) = pkA (!nx) a :=
 (pkA_iff (pkA_ok _ a) nx _).2 (fun u hu => by
  rw [pkA_bit _ a hu]
  show a (hvar u (!nx)) = a (xch (hvar u nx))
  congr 1
  cases nx
  ·show 12 + 2 * u + 1 = xch (12 + 2 * u + 0)
   unfold xch
   rw [if_neg (by omega), if_pos (by omega)]
  ·show 12 + 2 * u + 0 = xch (12 + 2 * u + 1)
   unfold xch
   rw [if_neg (by omega), if_neg (by omega)]
   omega)
/-! ### preimages of few packets -/
end Go.Proofs.YtdgnbbmgcgfibaaGreatDoor

namespace Go.Proofs.YtdgnbbmgcgfibaaGreatDoor
open Go.RowKit

/-! ### the first thing of a list that an assignment meets -/
section
open Classical
variable {A : Type} (P : A → (Nat → Bool) → Prop)
noncomputable def fstP : List A → (Nat → Bool) → Nat
 | [], _ => 0
 | q :: l, y => if P q y then 0 else fstP l y + 1
theorem fstP_le (y : Nat → Bool) : ∀ l : List A, fstP P l y ≤ l.length
 | [] => Nat.le_refl _
 | q :: l => by
  unfold fstP
  split
  ·omega
  ·have := fstP_le y l
   simp only [List.length_cons]
   omega
theorem fstP_eq {y y' : Nat → Bool} : ∀ l : List A, fstP P l y = fstP P l y' → (∃ a, a ∈ l ∧ P a y ∧ P a y') ∨ ∀ a, a ∈ l → ¬ P a y ∧ ¬ P a y'
 | [], _ => .inr (fun a h => by cases h)
 | q :: l, h => by
  unfold fstP at h
  by_cases h1 : P q y
  ·rw [if_pos h1] at h
   by_cases h2 : P q y'
   ·exact .inl ⟨q, List.mem_cons_self .., h1, h2⟩
   ·rw [if_neg h2] at h; omega
  ·rw [if_neg h1] at h
   by_cases h2 : P q y'
   ·rw [if_pos h2] at h; omega
   ·rw [if_neg h2] at h
    rcases fstP_eq (y := y) (y' := y') l (by omega) with ⟨a, ha, g⟩ | g
    ·exact .inl ⟨a, List.mem_cons_of_mem _ ha, g⟩
    ·refine .inr (fun a ha => ?_)
     rcases List.mem_cons.1 ha with rfl | ha
     ·exact ⟨h1, h2⟩
     ·exact g a ha
end
/-! ### functions of the current packet -/
/-! ### destinations -/
/-! ### sources -/
theorem field_cases (u : Nat) : fieldOf u = 0 ∨ fieldOf u = 1 ∨ fieldOf u = 2 ∨ fieldOf u = 3 ∨ fieldOf u = 4 := by
 unfold fieldOf
 repeat' split
 all_goals simp
theorem field0 {u : Nat} (h : fieldOf u = 0) : u < 32 := by
 unfold fieldOf at h
 by_cases h0 : u < 32
 ·exact h0
 ·rw [if_neg h0] at h
  repeat' split at h
  all_goals omega
theorem bit_eq {p q : Pkt} {u : Nat} (h : p.f (fieldOf u) = q.f (fieldOf u)) : p.bit u = q.bit u := by
 unfold Pkt.bit
 rw [h]
end Go.Proofs.YtdgnbbmgcgfibaaGreatDoor
