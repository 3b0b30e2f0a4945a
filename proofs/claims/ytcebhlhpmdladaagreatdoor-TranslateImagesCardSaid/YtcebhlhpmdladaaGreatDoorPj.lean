/-
  Plain mathematics: how many cofactors the relations of translations have together where the next packet is one of a few.
-/
import Derived.Test.YtcebhlhpmdladaaGreatDoorTn
import Derived.Test.YtcebhlhpmdladaaGreatDoorRm
namespace Go.Proofs.YtcebhlhpmdladaaGreatDoor
open Go.RowKit

/-! ### the packet of an assignment -/
def pkA (nx : Bool) (a : Nat → Bool) : Pkt := ⟨fval 0 nx a, fval 1 nx a, (fval 2 nx a : Nat), (fval 3 nx a : Nat), (fval 4 nx a : Nat)⟩
theorem fvL (k : Nat) (nx : Bool) (a : Nat → Bool) : fval k nx a < 2 ^ fw k := bval_lt _ _
theorem pkA_ok (nx : Bool) (a : Nat → Bool) : (pkA nx a).ok := by
  have h0 := fvL 0 nx a
  have h1 := fvL 1 nx a
  have h2 := fvL 2 nx a
  have h3 := fvL 3 nx a
  have h4 := fvL 4 nx a
  rw [show fw 0 = 32 from rfl] at h0
  rw [show fw 1 = 32 from rfl] at h1
  rw [show fw 2 = 8 from rfl] at h2
  rw [show fw 3 = 16 from rfl] at h3
  rw [show fw 4 = 16 from rfl] at h4
  refine ⟨h0, h1, ⟨?_, ?_⟩, ⟨?_, ?_⟩, ?_, ?_⟩ <;> simp only [pkA] <;> omega
theorem pkA_f (nx : Bool) (a : Nat → Bool) {k : Nat} (hk : k < 5) : (pkA nx a).f k = fval k nx a := by
  have h := pkA_ok nx a
  rcases five hk with rfl | rfl | rfl | rfl | rfl
  · rfl
  · rfl
  · have := u32_of (x := (fval 2 nx a : Int)) ⟨by omega, by have := h.h2.2; simp only [pkA] at this; omega⟩
    show u32 (fval 2 nx a : Int) = _
    omega
  · have := u32_of (x := (fval 3 nx a : Int)) ⟨by omega, by have := h.h3.2; simp only [pkA] at this; omega⟩
    show u32 (fval 3 nx a : Int) = _
    omega
  · have := u32_of (x := (fval 4 nx a : Int)) ⟨by omega, by have := h.h4.2; simp only [pkA] at this; omega⟩
    show u32 (fval 4 nx a : Int) = _
    omega
theorem pkA_bit (nx : Bool) (a : Nat → Bool) {u : Nat} (hu : u < 104) : (pkA nx a).bit u = a (hvar u nx) := by
  obtain ⟨k, b, hk, hb, rfl⟩ := fieldCut hu
  rw [Pkt.bit_at _ hk hb, pkA_f nx a hk]
  unfold fval
  rw [bval_testbit _ _ _ (by omega)]
  unfold fbit fvar
  rw [show fw k - 1 - (fw k - 1 - b) = b by omega]
theorem pk_bits {p q : Pkt} (hp : p.ok) (hq : q.ok) (h : ∀ u, u < 104 → p.bit u = q.bit u) : p = q :=
  pkt_ext hp hq (fun k hk => bitsEq (hp.lt hk) (hq.lt hk) (fun i hi => by
    have hff := ff_fw hk
    have h1 := h (ff k + (fw k - 1 - i)) (by omega)
    rw [p.bit_at hk (by omega), q.bit_at hk (by omega), show fw k - 1 - (fw k - 1 - i) = i by omega] at h1
    exact h1))
theorem pkA_iff {q : Pkt} (hq : q.ok) (nx : Bool) (a : Nat → Bool) : pkA nx a = q ↔ ∀ u, u < 104 → q.bit u = a (hvar u nx) := by
  constructor
  · rintro rfl u hu
    exact pkA_bit nx a hu
  · intro h
    exact pk_bits (pkA_ok nx a) hq (fun u hu => by rw [pkA_bit nx a hu, h u hu])
theorem hvar_split {v : Nat} (h1 : 12 ≤ v) (h2 : v < 220) : ∃ u nx, u < 104 ∧ v = hvar u nx := by
  by_cases e : (v - 12) % 2 = 0
  · exact ⟨(v - 12) / 2, false, by omega, by unfold hvar; simp; omega⟩
  · exact ⟨(v - 12) / 2, true, by omega, by unfold hvar; simp; omega⟩
theorem ePQ_pk (a : Nat → Bool) {v : Nat} (h1 : 12 ≤ v) (h2 : v < 220) : ePQ (pkA false a) (pkA true a) v = a v := by
  obtain ⟨u, nx, hu, rfl⟩ := hvar_split h1 h2
  unfold ePQ
  rw [gL_at _ h2, enc_bit]
  cases nx
  · simp only [Bool.false_eq_true, if_false]; exact pkA_bit false a hu
  · simp only [if_true]; exact pkA_bit true a hu
theorem pkA_congr {nx : Bool} {a b : Nat → Bool} (h : ∀ u, u < 104 → a (hvar u nx) = b (hvar u nx)) : pkA nx a = pkA nx b :=
  (pkA_iff (pkA_ok nx b) nx a).2 (fun u hu => by rw [pkA_bit nx b hu, h u hu])

/-! ### the relations at an assignment -/
theorem rg12 {k : Nat} (hk : k < 5) (nx : Bool) (lo hi : Nat) : Rd 12 220 (rgF k nx lo hi) :=
  (rgF_rd lo hi).mono (by rw [fvar_eq]; omega) (by have := ff_fw hk; unfold fend; omega)
theorem dst_rd12 : ∀ l : List Ent, Rd 12 220 (dstF l)
  | [] => samF_rd _
  | e :: l => fun a b hab => by
    have r : ∀ k nx lo hi, k < 5 → rgF k nx lo hi a = rgF k nx lo hi b := fun k nx lo hi hk => rg12 hk nx lo hi a b hab
    have s : ∀ W, samF W a = samF W b := fun W => samF_rd W a b hab
    show (if e.dapp a = true then e.dchg a else dstF l a) = (if e.dapp b = true then e.dchg b else dstF l b)
    have k1 : e.dapp a = e.dapp b := by
      cases e with
      | stat i o => exact r 1 _ _ _ (by omega)
      | pool any rs lo hi => rfl
      | fwd i pr ip o op => simp only [Ent.dapp, allF]; rw [r 1 _ _ _ (by omega), r 2 _ _ _ (by omega), r 4 _ _ _ (by omega)]
    have k2 : e.dchg a = e.dchg b := by
      cases e with
      | stat i o => simp only [Ent.dchg, allF]; rw [s, r 1 _ _ _ (by omega)]
      | pool any rs lo hi => rfl
      | fwd i pr ip o op => simp only [Ent.dchg, allF]; rw [s, r 1 _ _ _ (by omega), r 4 _ _ _ (by omega)]
    rw [k1, k2, dst_rd12 l a b hab]
theorem src_rd12 : ∀ l : List Ent, Rd 12 220 (srcF l)
  | [] => samF_rd _
  | e :: l => fun a b hab => by
    have r : ∀ k nx lo hi, k < 5 → rgF k nx lo hi a = rgF k nx lo hi b := fun k nx lo hi hk => rg12 hk nx lo hi a b hab
    have s : ∀ W, samF W a = samF W b := fun W => samF_rd W a b hab
    show (if e.sapp a = true then e.schg a else srcF l a) = (if e.sapp b = true then e.schg b else srcF l b)
    have k1 : e.sapp a = e.sapp b := by
      cases e with
      | stat i o => exact r 0 _ _ _ (by omega)
      | pool any rs lo hi =>
        cases any
        · exact aclF_rd rs a b hab
        · rfl
      | fwd i pr ip o op => simp only [Ent.sapp, allF]; rw [r 0 _ _ _ (by omega), r 2 _ _ _ (by omega), r 3 _ _ _ (by omega)]
    have k2 : e.schg a = e.schg b := by
      cases e with
      | stat i o => simp only [Ent.schg, allF]; rw [s, r 0 _ _ _ (by omega)]
      | pool any rs lo hi => simp only [Ent.schg, allF]; rw [s, r 0 _ _ _ (by omega)]
      | fwd i pr ip o op => simp only [Ent.schg, allF]; rw [s, r 0 _ _ _ (by omega), r 3 _ _ _ (by omega)]
    rw [k1, k2, src_rd12 l a b hab]
theorem dst_pk (ac : ByteArray → List Ru) (ts : List Tr) (hok : ∀ t, t ∈ ts → t.ok) (a : Nat → Bool) : dstF (ts.map (Tr.ent ac)) a = true ↔ pkA true a = pkDst ts (pkA false a) := by
  rw [← dst_enc ac ts hok (pkA_ok false a) (pkA_ok true a), dst_rd12 _ a (ePQ (pkA false a) (pkA true a)) (fun v h1 h2 => (ePQ_pk a h1 h2).symm)]
theorem src_pk (ac : ByteArray → List Ru) (ts : List Tr) (hok : ∀ t, t ∈ ts → t.ok) (a : Nat → Bool) : srcF (ts.map (Tr.ent ac)) a = true ↔ pkA true a ∈ pkSrc ac ts (pkA false a) := by
  rw [← src_enc ac ts hok (pkA_ok false a) (pkA_ok true a), src_rd12 _ a (ePQ (pkA false a) (pkA true a)) (fun v h1 h2 => (ePQ_pk a h1 h2).symm)]

/-! ### packets that agree with what is given -/
/-- The packet has the bits that an assignment gives to the variables below e. -/
def agr (nx : Bool) (e : Nat) (y : Nat → Bool) (q : Pkt) : Prop := ∀ u, u < 104 → hvar u nx < e → q.bit u = y (hvar u nx)
/-- y below e, x from e on. -/
def mxe (e : Nat) (y x : Nat → Bool) : Nat → Bool := fun v => if v < e then y v else x v
theorem pkA_mxe {q : Pkt} (hq : q.ok) (nx : Bool) (e : Nat) (y x : Nat → Bool) : pkA nx (mxe e y x) = q ↔ agr nx e y q ∧ ∀ u, u < 104 → e ≤ hvar u nx → q.bit u = x (hvar u nx) := by
  rw [pkA_iff hq]
  constructor
  · intro h
    refine ⟨fun u hu he => ?_, fun u hu he => ?_⟩
    · have := h u hu
      unfold mxe at this
      rwa [if_pos he] at this
    · have := h u hu
      unfold mxe at this
      rwa [if_neg (by omega)] at this
  · rintro ⟨h1, h2⟩ u hu
    unfold mxe
    by_cases he : hvar u nx < e
    · rw [if_pos he]; exact h1 u hu he
    · rw [if_neg he]; exact h2 u hu (by omega)
section
open Classical
/-- The first of the packets that agrees. -/
noncomputable def fsI (nx : Bool) (e : Nat) : List Pkt → (Nat → Bool) → Nat
  | [], _ => 0
  | q :: l, y => if agr nx e y q then 0 else fsI nx e l y + 1
theorem fsI_le (nx : Bool) (e : Nat) (y : Nat → Bool) : ∀ l : List Pkt, fsI nx e l y ≤ l.length
  | [] => Nat.le_refl _
  | q :: l => by
    unfold fsI
    split
    · omega
    · have := fsI_le nx e y l
      simp only [List.length_cons]
      omega
theorem fsI_same {nx : Bool} {e : Nat} {y y' : Nat → Bool} : ∀ l : List Pkt, fsI nx e l y = fsI nx e l y' → ∀ q, q ∈ l → (agr nx e y q ↔ agr nx e y' q)
  | [], _, q, hq => by cases hq
  | p :: l, h, q, hq => by
    unfold fsI at h
    by_cases h1 : agr nx e y p
    · rw [if_pos h1] at h
      by_cases h2 : agr nx e y' p
      · have same : ∀ u, u < 104 → hvar u nx < e → y (hvar u nx) = y' (hvar u nx) := fun u hu he => by rw [← h1 u hu he, ← h2 u hu he]
        exact ⟨fun g u hu he => by rw [← same u hu he]; exact g u hu he, fun g u hu he => by rw [same u hu he]; exact g u hu he⟩
      · rw [if_neg h2] at h; omega
    · rw [if_neg h1] at h
      by_cases h2 : agr nx e y' p
      · rw [if_pos h2] at h; omega
      · rw [if_neg h2] at h
        rcases List.mem_cons.1 hq with rfl | hq
        · exact ⟨fun g => absurd g h1, fun g => absurd g h2⟩
        · exact fsI_same l (by omega) q hq
end

/-- Truth values of a list as a number. -/
def bmask (φ : Pkt → Bool) : List Pkt → Nat
  | [] => 0
  | q :: l => 2 * bmask φ l + if φ q = true then 1 else 0
theorem bmask_lt (φ : Pkt → Bool) : ∀ l : List Pkt, bmask φ l < 2 ^ l.length
  | [] => Nat.one_pos
  | q :: l => by
    have := bmask_lt φ l
    simp only [bmask, List.length_cons, Nat.pow_succ]
    split <;> omega
theorem bmask_same {φ ψ : Pkt → Bool} : ∀ l : List Pkt, bmask φ l = bmask ψ l → ∀ q, q ∈ l → φ q = ψ q
  | [], _, q, hq => by cases hq
  | p :: l, h, q, hq => by
    simp only [bmask] at h
    have e1 : bmask φ l = bmask ψ l := by split at h <;> split at h <;> omega
    rcases List.mem_cons.1 hq with rfl | hq
    · rw [e1] at h
      cases h1 : φ q <;> cases h2 : ψ q <;> simp [h1, h2] at h ⊢
    · exact bmask_same l e1 q hq

/-! ### products -/
theorem mem_hvK {nx : Bool} {v : Nat} : v ∈ hvK nx 104 ↔ ∃ u, u < 104 ∧ v = hvar u nx := by
  unfold hvK
  rw [List.mem_map]
  constructor
  · rintro ⟨u, hu, rfl⟩
    exact ⟨u, List.mem_range.1 hu, rfl⟩
  · rintro ⟨u, hu, rfl⟩
    exact ⟨u, List.mem_range.2 hu, rfl⟩
theorem hvar_ne {u u' : Nat} {nx : Bool} : hvar u nx ≠ hvar u' (!nx) := by
  unfold hvar
  cases nx <;> simp <;> omega
theorem hv_mem {nx : Bool} {u : Nat} (hu : u < 104) : hvar u nx ∈ hvK nx 104 := mem_hvK.2 ⟨u, hu, rfl⟩
theorem hv_not {nx : Bool} {u : Nat} : hvar u (!nx) ∉ hvK nx 104 := fun h => by
  obtain ⟨u', _, e⟩ := mem_hvK.1 h
  exact hvar_ne e.symm
/-- The variables that a product has given: those below d' by a', those below d by a, the rest by x. -/
def gv (d' : Nat) (a' a : Nat → Bool) : Nat → Bool := fun v => if v < d' then a' v else a v
theorem pro_kept {M : Mgr} (hn : M.n = 220) (hp : M.Plain) (nx : Bool) (d' d : Nat) (a' a b x : Nat → Bool) : pkA (!nx) (M.mix d' a' (ovr (hvK nx 104) b (M.mix d a x))) = pkA (!nx) (mxe (max d' d) (gv d' a' a) x) :=
  pkA_congr (fun u hu => by
    have hl := hp (hvar u (!nx)) (by rw [hn]; exact hvar_lt hu _)
    unfold Mgr.mix ovr mxe gv
    rw [if_neg hv_not, hl]
    by_cases h1 : hvar u (!nx) < d'
    · rw [if_pos h1, if_pos (show hvar u (!nx) < max d' d by omega), if_pos h1]
    · rw [if_neg h1]
      show (if M.lev (hvar u (!nx)) < d then a (hvar u (!nx)) else x (hvar u (!nx))) = _
      rw [hl]
      by_cases h2 : hvar u (!nx) < d
      · rw [if_pos h2, if_pos (show hvar u (!nx) < max d' d by omega), if_neg h1]
      · rw [if_neg h2, if_neg (show ¬ hvar u (!nx) < max d' d by omega)])
/-- The packet that is quantified may be any that agrees with a'. -/
theorem pro_free {M : Mgr} (hn : M.n = 220) (hp : M.Plain) (nx : Bool) (d' : Nat) (a' y : Nat → Bool) {q : Pkt} (hq : q.ok) : (∃ b, pkA nx (M.mix d' a' (ovr (hvK nx 104) b y)) = q) ↔ agr nx d' a' q := by
  have ev : ∀ b u, u < 104 → M.mix d' a' (ovr (hvK nx 104) b y) (hvar u nx) = if hvar u nx < d' then a' (hvar u nx) else b (hvar u nx) := fun b u hu => by
    have hl := hp (hvar u nx) (by rw [hn]; exact hvar_lt hu _)
    unfold Mgr.mix ovr
    rw [if_pos (hv_mem hu), hl]
  constructor
  · rintro ⟨b, h⟩ u hu he
    have := (pkA_iff hq nx _).1 h u hu
    rw [ev b u hu, if_pos he] at this
    exact this
  · intro h
    refine ⟨fun v => q.bit ((v - 12) / 2), (pkA_iff hq nx _).2 (fun u hu => ?_)⟩
    rw [ev _ u hu]
    by_cases he : hvar u nx < d'
    · rw [if_pos he]; exact h u hu he
    · rw [if_neg he]
      show q.bit u = q.bit ((hvar u nx - 12) / 2)
      congr 1
      unfold hvar
      cases nx <;> simp <;> omega
/-- The functions of a product that takes a packet of a list away. -/
theorem Listed.points {M : Mgr} (hn : M.n = 220) (hp : M.Plain) (nx : Bool) (l : List Pkt) (hl : ∀ q, q ∈ l → q.ok) (T : Pkt → Bfn) (hT : ∀ q, q ∈ l → ∀ a b : Nat → Bool, pkA (!nx) a = pkA (!nx) b → T q a = T q b) {F : Bfn} (hF : ∀ w, F w = true ↔ ∃ q, q ∈ l ∧ pkA nx w = q ∧ T q w = true)
    {s : Nat} (st : Nat → (Nat → Bool) → Nat) (h1 : ∀ e y, st e y < s) (h2 : ∀ e y y', st e y = st e y' → ∀ q, q ∈ l → ∀ x, T q (mxe e y x) = T q (mxe e y' x)) : Listed (M.ProF (hvK nx 104) F) (221 * (2 ^ l.length * s)) := by
  classical
  have key : ∀ (d' d : Nat) (a' a : Nat → Bool) (x : Nat → Bool), exQ (hvK nx 104) (fun y => F (M.mix d' a' y)) (M.mix d a x) = true ↔ ∃ q, q ∈ l ∧ agr nx d' a' q ∧ T q (mxe (max d' d) (gv d' a' a) x) = true := fun d' d a' a x => by
    rw [exQ_iff]
    constructor
    · rintro ⟨b, h⟩
      obtain ⟨q, hq, e, t⟩ := (hF _).1 h
      refine ⟨q, hq, (pro_free hn hp nx d' a' _ (hl q hq)).1 ⟨b, e⟩, ?_⟩
      rw [← hT q hq _ _ (pro_kept hn hp nx d' d a' a b x)]
      exact t
    · rintro ⟨q, hq, e, t⟩
      obtain ⟨b, hb⟩ := (pro_free hn hp nx d' a' (M.mix d a x) (hl q hq)).2 e
      exact ⟨b, (hF _).2 ⟨q, hq, hb, by rw [hT q hq _ _ (pro_kept hn hp nx d' d a' a b x)]; exact t⟩⟩
  have top : ∀ e y, st (min e 220) y < s := fun e y => h1 _ y
  have cut : ∀ e (y x : Nat → Bool) q, q ∈ l → T q (mxe e y x) = T q (mxe (min e 220) y x) := fun e y x q hq => hT q hq _ _ (pkA_congr (fun u hu => by
    have := hvar_lt hu (!nx)
    unfold mxe
    by_cases h : hvar u (!nx) < e
    · rw [if_pos h, if_pos (by omega)]
    · rw [if_neg h, if_neg (by omega)]))
  refine Listed.code (A := (Nat × Nat) × ((Nat → Bool) × (Nat → Bool))) (P := fun _ => True) (fun z => fun x => exQ (hvK nx 104) (fun y => F (M.mix z.1.1 z.2.1 y)) (M.mix z.1.2 z.2.2 x))
    (fun z => min (max z.1.1 z.1.2) 220 * (2 ^ l.length * s) + (bmask (fun q => decide (agr nx z.1.1 z.2.1 q)) l * s + st (min (max z.1.1 z.1.2) 220) (gv z.1.1 z.2.1 z.2.2))) (fun z _ => ?_) (fun z z' _ _ e => ?_) (fun G hG => ?_)
  · have a1 := bmask_lt (fun q => decide (agr nx z.1.1 z.2.1 q)) l
    have a2 := top (max z.1.1 z.1.2) (gv z.1.1 z.2.1 z.2.2)
    have a3 : (bmask (fun q => decide (agr nx z.1.1 z.2.1 q)) l + 1) * s ≤ 2 ^ l.length * s := Nat.mul_le_mul_right _ a1
    have a4 : min (max z.1.1 z.1.2) 220 * (2 ^ l.length * s) ≤ 220 * (2 ^ l.length * s) := Nat.mul_le_mul_right _ (by omega)
    rw [Nat.add_mul] at a3
    omega
  · have a1 := bmask_lt (fun q => decide (agr nx z.1.1 z.2.1 q)) l
    have a2 := top (max z.1.1 z.1.2) (gv z.1.1 z.2.1 z.2.2)
    have b1 := bmask_lt (fun q => decide (agr nx z'.1.1 z'.2.1 q)) l
    have b2 := top (max z'.1.1 z'.1.2) (gv z'.1.1 z'.2.1 z'.2.2)
    have a3 : (bmask (fun q => decide (agr nx z.1.1 z.2.1 q)) l + 1) * s ≤ 2 ^ l.length * s := Nat.mul_le_mul_right _ a1
    have b3 : (bmask (fun q => decide (agr nx z'.1.1 z'.2.1 q)) l + 1) * s ≤ 2 ^ l.length * s := Nat.mul_le_mul_right _ b1
    rw [Nat.add_mul] at a3 b3
    obtain ⟨e1, e2⟩ := code2 (by omega) (by omega) e
    obtain ⟨e3, e4⟩ := code2 a2 b2 e2
    have m := bmask_same l e3
    funext x
    rw [Bool.eq_iff_iff, key, key]
    have tt : ∀ q, q ∈ l → T q (mxe (max z.1.1 z.1.2) (gv z.1.1 z.2.1 z.2.2) x) = T q (mxe (max z'.1.1 z'.1.2) (gv z'.1.1 z'.2.1 z'.2.2) x) := fun q hq => by
      rw [cut _ _ _ q hq, cut (max z'.1.1 z'.1.2) _ _ q hq, ← e1]
      rw [← e1] at e4
      exact h2 _ _ _ e4 q hq x
    constructor
    · rintro ⟨q, hq, g, t⟩
      exact ⟨q, hq, of_decide_eq_true (by rw [← m q hq]; exact decide_eq_true g), by rw [← tt q hq]; exact t⟩
    · rintro ⟨q, hq, g, t⟩
      exact ⟨q, hq, of_decide_eq_true (by rw [m q hq]; exact decide_eq_true g), by rw [tt q hq]; exact t⟩
  · obtain ⟨d', a', d, a, rfl⟩ := hG
    exact ⟨((d', d), (a', a)), trivial, rfl⟩

theorem Listed.pointsJA {M : Mgr} (hn : M.n = 220) (hp : M.Plain) (nx : Bool) (l : List Pkt) (hl : ∀ q, q ∈ l → q.ok) (T : Pkt → Bfn) (hT : ∀ q, q ∈ l → ∀ a b : Nat → Bool, pkA (!nx) a = pkA (!nx) b → T q a = T q b) {F : Bfn} (hF : ∀ w, F w = true ↔ ∃ q, q ∈ l ∧ pkA nx w = q ∧ T q w = true)
    {s : Nat} (h : ∀ e, JA (ltD e) (l.map T) s) : Listed (M.ProF (hvK nx 104) F) (221 * (2 ^ l.length * s)) := by
  classical
  have m : ∀ e (y x : Nat → Bool), mxe e y x = mxD (ltD e) y x := fun e y x => by
    funext v
    unfold mxe
    rw [mx_lt]
  exact Listed.points hn hp nx l hl T hT hF (fun e => (h e).choose) (fun e y => (h e).choose_spec.1 y) (fun e y y' g q hq x => by
    rw [m, m]
    exact (h e).choose_spec.2 y y' g (T q) (List.mem_map.2 ⟨q, hq, rfl⟩) x)
/-- What is left when the packets of a list are taken away. -/
theorem ex_points (nx : Bool) (l : List Pkt) (hl : ∀ q, q ∈ l → q.ok) (T : Pkt → Bfn) (hT : ∀ q, q ∈ l → ∀ a b : Nat → Bool, pkA (!nx) a = pkA (!nx) b → T q a = T q b) {F : Bfn} (hF : ∀ w, F w = true ↔ ∃ q, q ∈ l ∧ pkA nx w = q ∧ T q w = true) (a : Nat → Bool) :
    exQ (hvK nx 104) F a = true ↔ ∃ q, q ∈ l ∧ T q a = true := by
  rw [exQ_iff]
  have kept : ∀ b, pkA (!nx) (ovr (hvK nx 104) b a) = pkA (!nx) a := fun b => pkA_congr (fun u hu => by unfold ovr; rw [if_neg hv_not])
  constructor
  · rintro ⟨b, h⟩
    obtain ⟨q, hq, _, t⟩ := (hF _).1 h
    exact ⟨q, hq, by rw [← hT q hq _ _ (kept b)]; exact t⟩
  · rintro ⟨q, hq, t⟩
    refine ⟨fun v => q.bit ((v - 12) / 2), (hF _).2 ⟨q, hq, (pkA_iff (hl q hq) nx _).2 (fun u hu => ?_), by rw [hT q hq _ _ (kept _)]; exact t⟩⟩
    unfold ovr
    rw [if_pos (hv_mem hu)]
    show q.bit u = q.bit ((hvar u nx - 12) / 2)
    congr 1
    unfold hvar
    cases nx <;> simp <;> omega

/-! ### images of few packets -/
/-- The packets of a list, as a set. -/
noncomputable def ipF (nx : Bool) (l : List Pkt) : Bfn := fun a => @decide (pkA nx a ∈ l) (Classical.propDecidable _)
theorem ipF_iff {nx : Bool} {l : List Pkt} {a : Nat → Bool} : ipF nx l a = true ↔ pkA nx a ∈ l := by
  unfold ipF
  exact @decide_eq_true_iff _ (Classical.propDecidable _)
theorem ipF_st (nx : Bool) (l : List Pkt) (hl : ∀ q, q ∈ l → q.ok) : PSt 220 (ipF nx l) (l.length + 1) := fun M hn hp => by
  refine ⟨fun d a => fsI nx d l a, fun d a => Nat.lt_succ_of_le (fsI_le nx d a l), fun d a a' e b => ?_⟩
  have mm : ∀ x : Nat → Bool, pkA nx (M.mix d x b) = pkA nx (mxe d x b) := fun x => pkA_congr (fun u hu => by
    have hlv := hp (hvar u nx) (by rw [hn]; exact hvar_lt hu _)
    unfold Mgr.mix mxe
    rw [hlv])
  rw [Bool.eq_iff_iff, ipF_iff, ipF_iff, mm, mm]
  have ag := fsI_same l e
  constructor
  · intro h
    obtain ⟨g1, g2⟩ := (pkA_mxe (hl _ h) nx d a b).1 rfl
    have := (pkA_mxe (hl _ h) nx d a' b).2 ⟨(ag _ h).1 g1, g2⟩
    rw [this]; exact h
  · intro h
    obtain ⟨g1, g2⟩ := (pkA_mxe (hl _ h) nx d a' b).1 rfl
    have := (pkA_mxe (hl _ h) nx d a b).2 ⟨(ag _ h).2 g1, g2⟩
    rw [this]; exact h
theorem pk_in (q : Pkt) (hq : q.ok) (nx : Bool) (a : Nat → Bool) : pkF q nx 5 a = ipF nx [q] a := by
  have e : ∀ k, k < 5 → (rgF k nx (q.f k) (q.f k) a = true ↔ fval k nx a = q.f k) := fun k _ => by
    unfold rgF
    rw [decide_eq_true_eq]
    omega
  rw [Bool.eq_iff_iff, ipF_iff, List.mem_singleton]
  show (rgF 0 nx (q.f 0) (q.f 0) a && (rgF 1 nx (q.f 1) (q.f 1) a && (rgF 2 nx (q.f 2) (q.f 2) a && (rgF 3 nx (q.f 3) (q.f 3) a && (rgF 4 nx (q.f 4) (q.f 4) a && true))))) = true ↔ _
  simp only [Bool.and_true, Bool.and_eq_true]
  rw [e 0 (by omega), e 1 (by omega), e 2 (by omega), e 3 (by omega), e 4 (by omega)]
  constructor
  · rintro ⟨h0, h1, h2, h3, h4⟩
    exact pkt_ext (pkA_ok nx a) hq (fun k hk => by
      rw [pkA_f nx a hk]
      rcases five hk with rfl | rfl | rfl | rfl | rfl <;> assumption)
  · intro h
    have g : ∀ k, k < 5 → fval k nx a = q.f k := fun k hk => by rw [← pkA_f nx a hk, h]
    exact ⟨g 0 (by omega), g 1 (by omega), g 2 (by omega), g 3 (by omega), g 4 (by omega)⟩
theorem xch_pk (nx : Bool) (a : Nat → Bool) : pkA nx (fun v => a (xch v)) = pkA (!nx) a :=
  (pkA_iff (pkA_ok _ a) nx _).2 (fun u hu => by
    rw [pkA_bit _ a hu]
    show a (hvar u (!nx)) = a (xch (hvar u nx))
    congr 1
    cases nx
    · show 12 + 2 * u + 1 = xch (12 + 2 * u + 0)
      unfold xch
      rw [if_neg (by omega), if_pos (by omega)]
    · show 12 + 2 * u + 0 = xch (12 + 2 * u + 1)
      unfold xch
      rw [if_neg (by omega), if_neg (by omega)]
      omega)
/-- An image of few packets: the functions on the way, and what it is. -/
theorem image_points (l : List Pkt) (hl : ∀ q, q ∈ l → q.ok) (R : Pkt → List Pkt) (hR : ∀ q, q ∈ l → ∀ r, r ∈ R q → r.ok) {F : Bfn} (hF : ∀ w, F w = true ↔ pkA false w ∈ l ∧ pkA true w ∈ R (pkA false w)) :
    (∀ M : Mgr, M.n = 220 → M.Plain → Listed (M.ProF (hvK false 104) F) (221 * (2 ^ l.length * ((l.flatMap R).length + 1)))) ∧ exQ (hvK false 104) F = ipF true (l.flatMap R) ∧ ∀ r, r ∈ l.flatMap R → r.ok := by
  have hro : ∀ r, r ∈ l.flatMap R → r.ok := fun r hr => by
    obtain ⟨q, hq, hr⟩ := List.mem_flatMap.1 hr
    exact hR q hq r hr
  have hF' : ∀ w, F w = true ↔ ∃ q, q ∈ l ∧ pkA false w = q ∧ ipF true (R q) w = true := fun w => by
    rw [hF]
    constructor
    · rintro ⟨h1, h2⟩
      exact ⟨_, h1, rfl, ipF_iff.2 h2⟩
    · rintro ⟨q, hq, rfl, h⟩
      exact ⟨hq, ipF_iff.1 h⟩
  have hT : ∀ q, q ∈ l → ∀ a b : Nat → Bool, pkA (!false) a = pkA (!false) b → ipF true (R q) a = ipF true (R q) b := fun q _ a b e => by
    unfold ipF
    rw [show pkA true a = pkA true b from e]
  refine ⟨fun M hn hp => ?_, funext fun a => ?_, hro⟩
  · refine Listed.points hn hp false l hl (fun q => ipF true (R q)) hT hF' (fun e y => fsI true e (l.flatMap R) y) (fun e y => Nat.lt_succ_of_le (fsI_le true e y _)) (fun e y y' g q hq x => ?_)
    have ag := fsI_same (l.flatMap R) g
    rw [Bool.eq_iff_iff, ipF_iff, ipF_iff]
    constructor
    · intro h
      have h' : pkA true (mxe e y x) ∈ l.flatMap R := List.mem_flatMap.2 ⟨q, hq, h⟩
      obtain ⟨g1, g2⟩ := (pkA_mxe (hro _ h') true e y x).1 rfl
      rw [(pkA_mxe (hro _ h') true e y' x).2 ⟨(ag _ h').1 g1, g2⟩]; exact h
    · intro h
      have h' : pkA true (mxe e y' x) ∈ l.flatMap R := List.mem_flatMap.2 ⟨q, hq, h⟩
      obtain ⟨g1, g2⟩ := (pkA_mxe (hro _ h') true e y' x).1 rfl
      rw [(pkA_mxe (hro _ h') true e y x).2 ⟨(ag _ h').2 g1, g2⟩]; exact h
  · rw [Bool.eq_iff_iff, ex_points false l hl (fun q => ipF true (R q)) hT hF', ipF_iff, List.mem_flatMap]
    exact ⟨fun ⟨q, hq, h⟩ => ⟨q, hq, ipF_iff.1 h⟩, fun ⟨q, hq, h⟩ => ⟨q, hq, ipF_iff.2 h⟩⟩
theorem xch_in (nx : Bool) (l : List Pkt) : rnF xch (ipF nx l) = ipF (!nx) l := funext fun a => by
  rw [Bool.eq_iff_iff, ipF_iff]
  show ipF nx l (fun v => a (xch v)) = true ↔ _
  rw [ipF_iff, xch_pk]

/-! ### preimages of few packets -/
/-- The next packet is q, the current one is left. -/
def setN (q : Pkt) (w : Nat → Bool) : Nat → Bool := fun v => if 12 ≤ v ∧ (v - 12) % 2 = 1 then q.bit ((v - 12) / 2) else w v
theorem setN_cur (q : Pkt) (w : Nat → Bool) (u : Nat) : setN q w (hvar u false) = w (hvar u false) := by
  unfold setN hvar
  rw [if_neg (by simp)]
theorem setN_nxt (q : Pkt) (w : Nat → Bool) (u : Nat) : setN q w (hvar u true) = q.bit u := by
  unfold setN hvar
  rw [if_pos ⟨by omega, by simp; omega⟩]
  congr 1
  simp; omega
theorem setN_pk {q : Pkt} (hq : q.ok) (w : Nat → Bool) : pkA false (setN q w) = pkA false w ∧ pkA true (setN q w) = q :=
  ⟨pkA_congr (fun u _ => setN_cur q w u), (pkA_iff hq true _).2 (fun u _ => (setN_nxt q w u).symm)⟩
/-- A preimage of few packets: the functions on the way, and what it is. -/
theorem preimage_points (l : List Pkt) (hl : ∀ q, q ∈ l → q.ok) (S : Pkt → List Pkt) {R F : Bfn} (hR : ∀ w, R w = true ↔ pkA true w ∈ S (pkA false w)) (hF : ∀ w, F w = true ↔ R w = true ∧ pkA true w ∈ l) {s : Nat} (h : ∀ e, JA (ltD e) (l.map fun q w => R (setN q w)) s) :
    (∀ M : Mgr, M.n = 220 → M.Plain → Listed (M.ProF (hvK true 104) F) (221 * (2 ^ l.length * s))) ∧ ∀ a, exQ (hvK true 104) F a = true ↔ ∃ q, q ∈ l ∧ q ∈ S (pkA false a) := by
  have hF' : ∀ w, F w = true ↔ ∃ q, q ∈ l ∧ pkA true w = q ∧ R (setN q w) = true := fun w => by
    rw [hF]
    constructor
    · rintro ⟨h1, h2⟩
      refine ⟨_, h2, rfl, (hR _).2 ?_⟩
      obtain ⟨e1, e2⟩ := setN_pk (pkA_ok true w) w
      rw [e1, e2]
      exact (hR _).1 h1
    · rintro ⟨q, hq, rfl, h⟩
      obtain ⟨e1, e2⟩ := setN_pk (pkA_ok true w) w
      have := (hR _).1 h
      rw [e1, e2] at this
      exact ⟨(hR _).2 this, hq⟩
  have hT : ∀ q, q ∈ l → ∀ a b : Nat → Bool, pkA (!true) a = pkA (!true) b → (fun w => R (setN q w)) a = (fun w => R (setN q w)) b := fun q hq a b e => by
    have e' : pkA false a = pkA false b := e
    rw [Bool.eq_iff_iff]
    show R (setN q a) = true ↔ R (setN q b) = true
    obtain ⟨e1, e2⟩ := setN_pk (hl q hq) a
    obtain ⟨e3, e4⟩ := setN_pk (hl q hq) b
    rw [hR, hR, e1, e2, e3, e4, e']
  refine ⟨fun M hn hp => Listed.pointsJA hn hp true l hl (fun q w => R (setN q w)) hT hF' h, fun a => ?_⟩
  rw [ex_points true l hl (fun q w => R (setN q w)) hT hF' a]
  constructor
  · rintro ⟨q, hq, t⟩
    obtain ⟨e1, e2⟩ := setN_pk (hl q hq) a
    have := (hR _).1 t
    rw [e1, e2] at this
    exact ⟨q, hq, this⟩
  · rintro ⟨q, hq, t⟩
    obtain ⟨e1, e2⟩ := setN_pk (hl q hq) a
    exact ⟨q, hq, (hR _).2 (by rw [e1, e2]; exact t)⟩
end Go.Proofs.YtcebhlhpmdladaaGreatDoor

namespace Go.Proofs.YtcebhlhpmdladaaGreatDoor
open Go.RowKit

/-! ### the first thing of a list that an assignment meets -/
section
open Classical
variable {A : Type} (P : A → (Nat → Bool) → Prop)
noncomputable def fstP : List A → (Nat → Bool) → Nat
  | [], _ => 0
  | q :: l, y => if P q y then 0 else fstP l y + 1
theorem fstP_le (y : Nat → Bool) : ∀ l : List A, fstP P l y ≤ l.length
  | [] => Nat.le_refl _
  | q :: l => by
    unfold fstP
    split
    · omega
    · have := fstP_le y l
      simp only [List.length_cons]
      omega
theorem fstP_eq {y y' : Nat → Bool} : ∀ l : List A, fstP P l y = fstP P l y' → (∃ a, a ∈ l ∧ P a y ∧ P a y') ∨ ∀ a, a ∈ l → ¬ P a y ∧ ¬ P a y'
  | [], _ => .inr (fun a h => by cases h)
  | q :: l, h => by
    unfold fstP at h
    by_cases h1 : P q y
    · rw [if_pos h1] at h
      by_cases h2 : P q y'
      · exact .inl ⟨q, List.mem_cons_self .., h1, h2⟩
      · rw [if_neg h2] at h; omega
    · rw [if_neg h1] at h
      by_cases h2 : P q y'
      · rw [if_pos h2] at h; omega
      · rw [if_neg h2] at h
        rcases fstP_eq (y := y) (y' := y') l (by omega) with ⟨a, ha, g⟩ | g
        · exact .inl ⟨a, List.mem_cons_of_mem _ ha, g⟩
        · refine .inr (fun a ha => ?_)
          rcases List.mem_cons.1 ha with rfl | ha
          · exact ⟨h1, h2⟩
          · exact g a ha
end
/-- The current packet has the bits of q below e, in the fields of W. -/
def agw (W : Nat → Bool) (e : Nat) (q : Pkt) (y : Nat → Bool) : Prop := ∀ u, u < 104 → W (fieldOf u) = true → hvar u false < e → q.bit u = y (hvar u false)
theorem agw_same {W : Nat → Bool} {e : Nat} {q : Pkt} {y y' : Nat → Bool} (h : agw W e q y) (h' : agw W e q y') {u : Nat} (hu : u < 104) (hw : W (fieldOf u) = true) (he : hvar u false < e) : y (hvar u false) = y' (hvar u false) := by
  rw [← h u hu hw he, ← h' u hu hw he]

/-! ### functions of the current packet -/
theorem setN_rgc (q : Pkt) (w : Nat → Bool) {k : Nat} (lo hi : Nat) : rgF k false lo hi (setN q w) = rgF k false lo hi w := by
  have e : fval k false (setN q w) = fval k false w := by
    unfold fval
    exact bval_congr _ (fun i _ => by unfold fbit fvar; exact setN_cur q w _)
  unfold rgF
  rw [e]
theorem setN_rgn (q : Pkt) (w w' : Nat → Bool) {k : Nat} (lo hi : Nat) : rgF k true lo hi (setN q w) = rgF k true lo hi (setN q w') := by
  have e : fval k true (setN q w) = fval k true (setN q w') := by
    unfold fval
    exact bval_congr _ (fun i _ => by unfold fbit fvar; rw [setN_nxt, setN_nxt])
  unfold rgF
  rw [e]
theorem sam_setN (W : Nat → Bool) (q : Pkt) (w : Nat → Bool) : samF W (setN q w) = true ↔ ∀ u, u < 104 → W (fieldOf u) = true → q.bit u = w (hvar u false) := by
  rw [samF_iff]
  constructor
  · intro h u hu hw
    have := h u hu hw
    rw [setN_cur, setN_nxt] at this
    exact this.symm
  · intro h u hu hw
    rw [setN_cur, setN_nxt]
    exact (h u hu hw).symm
theorem sam_cube (W : Nat → Bool) (q : Pkt) : IsCube (fun w => samF W (setN q w)) := by
  refine ⟨((List.range 104).filter fun u => W (fieldOf u)).map fun u => (hvar u false, q.bit u), funext fun a => ?_⟩
  rw [Bool.eq_iff_iff, sam_setN, cuF_iff]
  constructor
  · intro h x hx
    obtain ⟨u, hu, rfl⟩ := List.mem_map.1 hx
    obtain ⟨h1, h2⟩ := List.mem_filter.1 hu
    exact (h u (List.mem_range.1 h1) h2).symm
  · intro h u hu hw
    exact (h _ (List.mem_map.2 ⟨u, List.mem_filter.2 ⟨List.mem_range.2 hu, hw⟩, rfl⟩)).symm

/-! ### destinations -/
theorem dapp_cube {e : Ent} (h : e.ok) : IsCube e.dapp := by
  cases e with
  | stat i o => exact Ent.dcu_cube h _ (List.mem_cons_self ..)
  | pool any rs lo hi => exact cuF_false
  | fwd i pr ip o op => exact Ent.dcu_cube h _ (List.mem_cons_self ..)
theorem dst_ja (es : List Ent) (hes : ∀ e, e ∈ es → e.ok) (h4 : es.length ≤ 4) (l : List Pkt) (h6 : l.length ≤ 6) (D : Nat → Bool) : JA D (l.map fun q w => dstF es (setN q w)) (2 ^ 22) := by
  have hc : JA D (es.map Ent.dapp ++ l.flatMap (fun q => dW.map fun W w => samF W (setN q w))) (2 ^ (es.map Ent.dapp ++ l.flatMap (fun q => dW.map fun W w => samF W (setN q w))).length) := JA.cubes (fun F hF => by
    rcases List.mem_append.1 hF with hF | hF
    · obtain ⟨e, he, rfl⟩ := List.mem_map.1 hF
      exact dapp_cube (hes e he)
    · obtain ⟨q, _, hF⟩ := List.mem_flatMap.1 hF
      obtain ⟨W, _, rfl⟩ := List.mem_map.1 hF
      exact sam_cube W q)
  have len : (es.map Ent.dapp ++ l.flatMap (fun q => dW.map fun W w => samF W (setN q w))).length ≤ 22 := by
    have e3 : ∀ k : List Pkt, (k.flatMap (fun q => dW.map fun W w => samF W (setN q w))).length = 3 * k.length := fun k => by
      induction k with
      | nil => rfl
      | cons q k ih => simp only [List.flatMap_cons, List.length_append, List.length_map, List.length_cons, ih]; show 3 + _ = _; omega
    rw [List.length_append, List.length_map, e3]
    omega
  refine ((hc.mono (Nat.pow_le_pow_right (by omega) len)).fns (fun G hG a a' h => ?_))
  obtain ⟨q, hq, rfl⟩ := List.mem_map.1 hG
  refine dstF_det es _ _ (fun F hF => ?_)
  rcases List.mem_append.1 hF with hF | hF
  · obtain ⟨e, he, hF⟩ := List.mem_flatMap.1 hF
    have hd := h e.dapp (List.mem_append.2 (.inl (List.mem_map.2 ⟨e, he, rfl⟩)))
    cases e with
    | stat i o =>
      simp only [Ent.dcu, List.mem_cons, List.not_mem_nil, or_false] at hF
      rcases hF with rfl | rfl
      · rw [setN_rgc q a, setN_rgc q a']; exact hd
      · exact setN_rgn q a a' _ _
    | pool any rs lo hi => cases hF
    | fwd i pr ip o op =>
      simp only [Ent.dcu, List.mem_cons, List.not_mem_nil, or_false] at hF
      rcases hF with rfl | rfl
      · have e1 : ∀ x, allF [rgF 1 false o o, rgF 2 false pr pr, rgF 4 false op op] (setN q x) = allF [rgF 1 false o o, rgF 2 false pr pr, rgF 4 false op op] x := fun x => by
          simp only [allF]
          rw [setN_rgc q x, setN_rgc q x, setN_rgc q x]
        rw [e1, e1]; exact hd
      · simp only [allF]
        rw [setN_rgn q a a', setN_rgn q a a']
  · obtain ⟨W, hW, rfl⟩ := List.mem_map.1 hF
    exact h _ (List.mem_append.2 (.inr (List.mem_flatMap.2 ⟨q, hq, List.mem_map.2 ⟨W, hW, rfl⟩⟩)))

/-! ### sources -/
/-- a and b give the variables of the current packet the same values. -/
def curE (a b : Nat → Bool) : Prop := ∀ u, u < 104 → a (hvar u false) = b (hvar u false)
theorem rgc_cur {k : Nat} (hk : k < 5) (lo hi : Nat) {a b : Nat → Bool} (h : curE a b) : rgF k false lo hi a = rgF k false lo hi b := by
  have e : fval k false a = fval k false b := by
    unfold fval
    have hff := ff_fw hk
    exact bval_congr _ (fun i hi => by unfold fbit fvar; exact h _ (by omega))
  unfold rgF
  rw [e]
theorem wi_cur {k : Nat} (hk : k < 2) (ad ma : Nat) {a b : Nat → Bool} (h : curE a b) : wiF k false ad ma 32 a = wiF k false ad ma 32 b := by
  have hf32 : fw k = 32 := by rcases (show k = 0 ∨ k = 1 by omega) with rfl | rfl <;> rfl
  have hff := ff_fw (show k < 5 by omega)
  rw [Bool.eq_iff_iff]
  show wildB _ _ _ _ = true ↔ wildB _ _ _ _ = true
  rw [wildB_iff, wildB_iff]
  have e : ∀ i, i < 32 → fbit k false a i = fbit k false b i := fun i hi => by
    unfold fbit fvar
    exact h _ (by omega)
  constructor
  · intro g i hi hm; rw [← e i hi]; exact g i hi hm
  · intro g i hi hm; rw [e i hi]; exact g i hi hm
theorem ru_cur (x : Ru) {a b : Nat → Bool} (h : curE a b) : x.F a = x.F b := by
  unfold Ru.F Ru.c1 Ru.cu Ru.wi wnF
  rw [wi_cur (by omega) _ _ h, wi_cur (by omega) _ _ h, rgc_cur (k := 2) (by omega) _ _ h, rgc_cur (k := 3) (by omega) _ _ h, rgc_cur (k := 4) (by omega) _ _ h]
/-- What a result tells of the packet that it is a result of. -/
theorem src_need (ac : ByteArray → List Ru) : ∀ (ts : List Tr) (p q : Pkt), q ∈ pkSrc ac ts p → (p.dst = q.dst ∧ p.proto = q.proto ∧ p.dport = q.dport) ∧ (p.sport = q.sport ∨ ∃ t, t ∈ ts ∧ p.sport = t.ip)
  | [], p, q, h => by
    rw [show pkSrc ac [] p = [p] from rfl, List.mem_singleton] at h
    subst h
    exact ⟨⟨rfl, rfl, rfl⟩, .inl rfl⟩
  | t :: l, p, q, h => by
    unfold pkSrc at h
    split at h
    · rw [List.mem_singleton] at h
      subst h
      exact ⟨⟨rfl, rfl, rfl⟩, .inl rfl⟩
    · split at h
      · obtain ⟨j, _, rfl⟩ := mem_pool.1 h
        exact ⟨⟨rfl, rfl, rfl⟩, .inl rfl⟩
      · split at h
        · rename_i h1
          rw [List.mem_singleton] at h
          subst h
          exact ⟨⟨rfl, rfl, rfl⟩, .inr ⟨t, List.mem_cons_self .., h1.2.2.2.symm⟩⟩
        · obtain ⟨g1, g2⟩ := src_need ac l p q h
          refine ⟨g1, ?_⟩
          rcases g2 with g2 | ⟨t', ht', g2⟩
          · exact .inl g2
          · exact .inr ⟨t', List.mem_cons_of_mem _ ht', g2⟩
theorem field_cases (u : Nat) : fieldOf u = 0 ∨ fieldOf u = 1 ∨ fieldOf u = 2 ∨ fieldOf u = 3 ∨ fieldOf u = 4 := by
  unfold fieldOf
  repeat' split
  all_goals simp
theorem field0 {u : Nat} (h : fieldOf u = 0) : u < 32 := by
  unfold fieldOf at h
  by_cases h0 : u < 32
  · exact h0
  · rw [if_neg h0] at h
    repeat' split at h
    all_goals omega
theorem bit_eq {p q : Pkt} {u : Nat} (h : p.f (fieldOf u) = q.f (fieldOf u)) : p.bit u = q.bit u := by
  unfold Pkt.bit
  rw [h]
def w124 : Nat → Bool := fun k => decide (k = 1) || decide (k = 2) || decide (k = 4)
def w3 : Nat → Bool := fun k => decide (k = 3)
def w0 : Nat → Bool := fun k => decide (k = 0)
/-- The source ports that matter. -/
def spP (ts : List Tr) (l : List Pkt) : List Pkt := l ++ ts.map fun t => { pkz with sport := t.ip }
theorem src_ja (ac : ByteArray → List Ru) (ts : List Tr) (hok : ∀ t, t ∈ ts → t.ok) (hac : ∀ t, t ∈ ts → (ac t.nm).length ≤ 4) (h4 : ts.length ≤ 4) (l : List Pkt) (hl : ∀ q, q ∈ l → q.ok) (h6 : l.length ≤ 6) (e : Nat) : JA (ltD e) (l.map fun q w => srcF (ts.map (Tr.ent ac)) (setN q w)) (7 * 11 * 7 * 65536) := by
  obtain ⟨es, hes⟩ : ∃ es, es = ts.map (Tr.ent ac) := ⟨_, rfl⟩
  have heok : ∀ x, x ∈ es → x.ok := fun x hx => by
    rw [hes] at hx
    obtain ⟨t, ht, rfl⟩ := List.mem_map.1 hx
    exact Tr.ent_ok (hok t ht) (hac t ht)
  have hel : es.length ≤ 4 := by rw [hes, List.length_map]; exact h4
  obtain ⟨n1, _⟩ := src_few es heok
  have j0 : JA (ltD (min e 76)) ((es.flatMap Ent.rus).map Ru.F ++ es.flatMap Ent.scu) 65536 := by
    have hr := JA.rules_low (min e 76) (by omega) (es.flatMap Ent.rus)
    have hc : JA (ltD (min e 76)) (es.flatMap Ent.scu) (2 ^ (es.flatMap Ent.scu).length) := JA.cubes (fun F hF => by
      obtain ⟨x, hx, hF⟩ := List.mem_flatMap.1 hF
      exact Ent.scu_cube (heok x hx) F hF)
    refine (hr.app hc).mono ?_
    rw [← Nat.pow_add]
    exact Nat.le_trans (Nat.pow_le_pow_right (by omega) (show _ ≤ 16 by omega)) (by decide)
  obtain ⟨st, s1, s2⟩ := j0
  have l1 := fun y => fstP_le (agw w124 e) y l
  have l2 : ∀ y, fstP (agw w3 e) (spP ts l) y ≤ 10 := fun y => by
    have := fstP_le (agw w3 e) y (spP ts l)
    have : (spP ts l).length = l.length + ts.length := by unfold spP; simp
    omega
  have l3 := fun y => fstP_le (agw w0 e) y l
  refine ⟨fun y => ((fstP (agw w124 e) l y * 11 + fstP (agw w3 e) (spP ts l) y) * 7 + fstP (agw w0 e) l y) * 65536 + st y, fun y => ?_, fun y y' h G hG b => ?_⟩
  · have a1 := l1 y
    have a2 := l2 y
    have a3 := l3 y
    have a4 := s1 y
    dsimp only
    omega
  dsimp only at h
  have a1 := l1 y
  have a2 := l2 y
  have a3 := l3 y
  have a4 := s1 y
  have b1 := l1 y'
  have b2 := l2 y'
  have b3 := l3 y'
  have b4 := s1 y'
  have e4 : st y = st y' := by omega
  have e3 : fstP (agw w0 e) l y = fstP (agw w0 e) l y' := by omega
  have e2 : fstP (agw w3 e) (spP ts l) y = fstP (agw w3 e) (spP ts l) y' := by omega
  have e1 : fstP (agw w124 e) l y = fstP (agw w124 e) l y' := by omega
  clear a1 a2 a3 a4 b1 b2 b3 b4 h
  obtain ⟨q, hq, rfl⟩ := List.mem_map.1 hG
  -- what a truth tells
  have need : ∀ z, srcF es (setN q (mxD (ltD e) z b)) = true → agw w124 e q z ∧ ∃ s, s ∈ spP ts l ∧ agw w3 e s z := fun z hz => by
    rw [hes, src_pk ac ts hok] at hz
    obtain ⟨p1, p2⟩ := setN_pk (hl q hq) (mxD (ltD e) z b)
    rw [p1, p2] at hz
    obtain ⟨⟨g1, g2, g3⟩, g4⟩ := src_need ac ts _ q hz
    have at_ : ∀ u, u < 104 → hvar u false < e → (pkA false (mxD (ltD e) z b)).bit u = z (hvar u false) := fun u hu he => by
      rw [pkA_bit _ _ hu, mx_lt, if_pos he]
    constructor
    · intro u hu hw he
      rw [← at_ u hu he]
      refine bit_eq ?_
      rcases field_cases u with h | h | h | h | h <;> rw [h] at hw ⊢
      · exact absurd hw (by decide)
      · exact g1.symm
      · show u32 q.proto = u32 (pkA false (mxD (ltD e) z b)).proto; rw [g2]
      · exact absurd hw (by decide)
      · show u32 q.dport = u32 (pkA false (mxD (ltD e) z b)).dport; rw [g3]
    · rcases g4 with g4 | ⟨t, ht, g4⟩
      · refine ⟨q, List.mem_append.2 (.inl hq), fun u hu hw he => ?_⟩
        rw [← at_ u hu he]
        refine bit_eq ?_
        rw [of_decide_eq_true hw]
        show u32 q.sport = u32 (pkA false (mxD (ltD e) z b)).sport; rw [g4]
      · refine ⟨_, List.mem_append.2 (.inr (List.mem_map.2 ⟨t, ht, rfl⟩)), fun u hu hw he => ?_⟩
        rw [← at_ u hu he]
        refine bit_eq ?_
        rw [of_decide_eq_true hw]
        show u32 t.ip = u32 (pkA false (mxD (ltD e) z b)).sport; rw [g4]
  show srcF (ts.map (Tr.ent ac)) (setN q (mxD (ltD e) y b)) = srcF (ts.map (Tr.ent ac)) (setN q (mxD (ltD e) y' b))
  rw [← hes]
  have none : (∀ z, z = y ∨ z = y' → srcF es (setN q (mxD (ltD e) z b)) ≠ true) → srcF es (setN q (mxD (ltD e) y b)) = srcF es (setN q (mxD (ltD e) y' b)) := fun h => by
    rw [Bool.eq_false_iff.2 (h y (.inl rfl)), Bool.eq_false_iff.2 (h y' (.inr rfl))]
  rcases fstP_eq _ _ e1 with ⟨q1, _, g1, g1'⟩ | g1
  case inr => exact none (fun z hz ht => by
    have := (need z ht).1
    rcases hz with rfl | rfl
    · exact (g1 q hq).1 this
    · exact (g1 q hq).2 this)
  rcases fstP_eq _ _ e2 with ⟨q2, _, g2, g2'⟩ | g2
  case inr => exact none (fun z hz ht => by
    obtain ⟨s, hs, this⟩ := (need z ht).2
    rcases hz with rfl | rfl
    · exact (g2 s hs).1 this
    · exact (g2 s hs).2 this)
  -- beyond the source both assignments give the same
  have rest : ∀ u, u < 104 → fieldOf u ≠ 0 → hvar u false < e → y (hvar u false) = y' (hvar u false) := fun u hu hf he => by
    rcases field_cases u with h | h | h | h | h
    · exact absurd h hf
    · exact agw_same g1 g1' hu (by rw [h]; rfl) he
    · exact agw_same g1 g1' hu (by rw [h]; rfl) he
    · exact agw_same g2 g2' hu (by rw [h]; rfl) he
    · exact agw_same g1 g1' hu (by rw [h]; rfl) he
  have restw : ∀ u, u < 104 → fieldOf u ≠ 0 → mxD (ltD e) y b (hvar u false) = mxD (ltD e) y' b (hvar u false) := fun u hu hf => by
    rw [mx_lt, mx_lt]
    by_cases he : hvar u false < e
    · rw [if_pos he, if_pos he]; exact rest u hu hf he
    · rw [if_neg he, if_neg he]
  have c1 : mxD (ltD (min e 76)) y (mxD (ltD e) y b) = mxD (ltD e) y b := funext fun v => by
    rw [mx_lt, mx_lt]
    by_cases hv : v < min e 76
    · rw [if_pos hv, if_pos (by omega)]
    · rw [if_neg hv]
  have c2 : curE (mxD (ltD (min e 76)) y' (mxD (ltD e) y b)) (mxD (ltD e) y' b) := fun u hu => by
    rw [mx_lt]
    by_cases hv : hvar u false < min e 76
    · rw [if_pos hv, mx_lt, if_pos (by omega)]
    · rw [if_neg hv]
      by_cases he : hvar u false < e
      · have : fieldOf u ≠ 0 := fun h => by
          have := field0 h
          have : hvar u false = 12 + 2 * u + 0 := rfl
          omega
        exact restw u hu this
      · rw [mx_lt, mx_lt, if_neg he, if_neg he]
  have fsame : ∀ F, F ∈ (es.flatMap Ent.rus).map Ru.F ++ es.flatMap Ent.scu → (∀ a c : Nat → Bool, curE a c → F a = F c) → F (mxD (ltD e) y b) = F (mxD (ltD e) y' b) := fun F hF hc => by
    have := s2 y y' e4 F hF (mxD (ltD e) y b)
    rw [c1] at this
    rw [this]
    exact hc _ _ c2
  have cN : ∀ w, curE (setN q w) w := fun w u _ => setN_cur q w u
  have cur2 : ∀ F, F ∈ (es.flatMap Ent.rus).map Ru.F ++ es.flatMap Ent.scu → (∀ a c : Nat → Bool, curE a c → F a = F c) → F (setN q (mxD (ltD e) y b)) = F (setN q (mxD (ltD e) y' b)) := fun F hF hc => by
    rw [hc _ _ (cN _), hc _ _ (cN (mxD (ltD e) y' b))]
    exact fsame F hF hc
  refine srcF_det es _ _ (fun F hF => ?_)
  unfold srcP at hF
  rcases List.mem_append.1 hF with hF | hF
  · rcases List.mem_append.1 hF with hF | hF
    · rcases List.mem_append.1 hF with hF | hF
      · refine cur2 F (List.mem_append.2 (.inl hF)) (fun a c h => ?_)
        obtain ⟨x, _, rfl⟩ := List.mem_map.1 hF
        exact ru_cur x h
      · have hm := List.mem_append.2 (Or.inr (a := F ∈ (es.flatMap Ent.rus).map Ru.F) hF)
        obtain ⟨x, hx, hF⟩ := List.mem_flatMap.1 hF
        cases x with
        | stat i o =>
          simp only [Ent.scu, List.mem_cons, List.not_mem_nil, or_false] at hF
          rcases hF with rfl | rfl
          · exact cur2 _ hm (fun a c h => rgc_cur (by omega) _ _ h)
          · exact setN_rgn q _ _ _ _
        | pool any rs lo hi => cases hF
        | fwd i pr ip o op =>
          simp only [Ent.scu, List.mem_cons, List.not_mem_nil, or_false] at hF
          rcases hF with rfl | rfl
          · refine cur2 _ hm (fun a c h => ?_)
            simp only [allF]
            rw [rgc_cur (k := 0) (by omega) _ _ h, rgc_cur (k := 2) (by omega) _ _ h, rgc_cur (k := 3) (by omega) _ _ h]
          · simp only [allF]
            rw [setN_rgn q (mxD (ltD e) y b) (mxD (ltD e) y' b), setN_rgn q (mxD (ltD e) y b) (mxD (ltD e) y' b)]
    · obtain ⟨x, _, rfl⟩ := List.mem_map.1 hF
      exact setN_rgn q _ _ _ _
  · obtain ⟨W, _, rfl⟩ := List.mem_map.1 hF
    have ag : agw w0 e q y ↔ agw w0 e q y' := by
      rcases fstP_eq _ _ e3 with ⟨q3, _, g3, g3'⟩ | g3
      · have same : ∀ u, u < 104 → w0 (fieldOf u) = true → hvar u false < e → y (hvar u false) = y' (hvar u false) := fun u hu hw he => agw_same g3 g3' hu hw he
        exact ⟨fun g u hu hw he => by rw [← same u hu hw he]; exact g u hu hw he, fun g u hu hw he => by rw [same u hu hw he]; exact g u hu hw he⟩
      · exact ⟨fun g => absurd g (g3 q hq).1, fun g => absurd g (g3 q hq).2⟩
    have half : ∀ z z' : Nat → Bool, (agw w0 e q z → agw w0 e q z') → (∀ u, u < 104 → fieldOf u ≠ 0 → mxD (ltD e) z b (hvar u false) = mxD (ltD e) z' b (hvar u false)) → samF W (setN q (mxD (ltD e) z b)) = true → samF W (setN q (mxD (ltD e) z' b)) = true := fun z z' h1 h2 h3 => by
      rw [sam_setN] at h3 ⊢
      intro u hu hw
      by_cases hf : fieldOf u = 0
      · by_cases he : hvar u false < e
        · rw [mx_lt, if_pos he]
          refine h1 (fun u' hu' hw' he' => ?_) u hu (by rw [hf]; rfl) he
          have hf' : fieldOf u' = 0 := of_decide_eq_true hw'
          have := h3 u' hu' (by rw [hf', ← hf]; exact hw)
          rw [mx_lt, if_pos he'] at this
          exact this
        · have := h3 u hu hw
          rw [mx_lt, if_neg he] at this
          rw [mx_lt, if_neg he]
          exact this
      · rw [← h2 u hu hf]
        exact h3 u hu hw
    rw [Bool.eq_iff_iff]
    exact ⟨half y y' ag.1 restw, half y' y ag.2 (fun u hu hf => (restw u hu hf).symm)⟩
end Go.Proofs.YtcebhlhpmdladaaGreatDoor
