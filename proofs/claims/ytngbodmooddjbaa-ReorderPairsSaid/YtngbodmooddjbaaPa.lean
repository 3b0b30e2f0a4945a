/-
  Plain: the disjunction of k pairs of variables: its nodes where all first variables precede all second ones, and where the two variables of each pair are neighbors.
-/
import Derived.Test.YtngbodmooddjbaaTt
namespace Go.Proofs.Ytngbodmooddjbaa

/-- The disjunction of the pairs; the first of the first variables have the values T. -/
def pairF (k : Nat) (T : List Bool) : Bfn := fun a => (List.range k).any fun i => (T.getD i false || (decide (T.length ≤ i) && a i)) && a (i + k)
theorem any_one {k i : Nat} {p : Nat → Bool} (hi : i < k) (h : ∀ j, j < k → j ≠ i → p j = false) : (List.range k).any p = p i := by
  rw [Bool.eq_iff_iff, List.any_eq_true]
  constructor
  · rintro ⟨j, hj, e⟩
    by_cases c : j = i
    · rw [← c]; exact e
    · rw [h j (List.mem_range.1 hj) c] at e; cases e
  · exact fun e => ⟨i, List.mem_range.2 hi, e⟩
theorem any_same {k : Nat} {p q : Nat → Bool} (h : ∀ j, j < k → p j = q j) : (List.range k).any p = (List.range k).any q := by
  rw [Bool.eq_iff_iff, List.any_eq_true, List.any_eq_true]
  exact ⟨fun ⟨j, hj, e⟩ => ⟨j, hj, by rw [← h j (List.mem_range.1 hj)]; exact e⟩, fun ⟨j, hj, e⟩ => ⟨j, hj, by rw [h j (List.mem_range.1 hj)]; exact e⟩⟩
theorem any_no {k : Nat} {p : Nat → Bool} (h : ∀ j, j < k → p j = false) : (List.range k).any p = false := by
  rw [Bool.eq_false_iff]
  intro e
  obtain ⟨j, hj, e⟩ := List.any_eq_true.1 e
  rw [h j (List.mem_range.1 hj)] at e; cases e
theorem getD_b {T : List Bool} {i : Nat} (h : T.length ≤ i) : T.getD i false = false := by rw [List.getD_eq_getElem?_getD, List.getElem?_eq_none h]; rfl

/-- The second variable of pair j, and the first one if b. -/
def xyA (k j : Nat) (b : Bool) : Nat → Bool := fun v => decide (v = j + k) || (b && decide (v = j))
theorem xyA_y {k j : Nat} {b : Bool} {i : Nat} (hj : j < k) (h : i ≠ j) : xyA k j b (i + k) = false := by
  unfold xyA
  rw [decide_eq_false (by omega), decide_eq_false (by omega), Bool.and_false]; rfl
theorem xyA_t {k j : Nat} {b : Bool} : xyA k j b (j + k) = true := by unfold xyA; rw [decide_eq_true rfl]; rfl
theorem xyA_x {k j : Nat} {b : Bool} (hk : 0 < k) : xyA k j b j = b := by
  unfold xyA
  rw [decide_eq_false (by omega), decide_eq_true rfl, Bool.and_true]; rfl
theorem pairF_y {k j : Nat} {T : List Bool} {b : Bool} (hj : j < k) (h : j < T.length) : pairF k T (xyA k j b) = T.getD j false := by
  unfold pairF
  rw [any_one hj (fun i _ hne => by rw [xyA_y hj hne, Bool.and_false]), xyA_t, decide_eq_false (by omega), Bool.false_and, Bool.or_false, Bool.and_true]
theorem pairF_x {k j : Nat} {T : List Bool} {b : Bool} (hj : j < k) (h : T.length ≤ j) : pairF k T (xyA k j b) = b := by
  unfold pairF
  rw [any_one hj (fun i _ hne => by rw [xyA_y hj hne, Bool.and_false]), xyA_t, decide_eq_true h, Bool.true_and, xyA_x (by omega), Bool.and_true, getD_b h, Bool.false_or]
theorem pairF_0 (k : Nat) (T : List Bool) : pairF k T (fun _ => false) = false := any_no (fun _ _ => Bool.and_false _)

def pS (k : Nat) (T : List Bool) : Bfn := if T.length ≤ k then pairF k T else fun _ => true
def pDp (k : Nat) (T : List Bool) : Nat := if T.length < k then T.length else k + T.idxOf true
def pLo (k : Nat) (T : List Bool) : List Bool := if T.length < k then T ++ [false] else T.set (T.idxOf true) false
def pHi (k : Nat) (T : List Bool) : List Bool := if T.length < k then T ++ [true] else List.replicate (k + 1) true
def extL (L : List (List Bool)) : List (List Bool) := L.flatMap fun T => [T ++ [false], T ++ [true]]
def allL : Nat → List (List Bool)
  | 0 => [[]]
  | j + 1 => extL (allL j)
def nzL : Nat → List (List Bool)
  | 0 => []
  | j + 1 => extL (nzL j) ++ [List.replicate j false ++ [true]]
def farI (k : Nat) : List (List Bool) := (List.range k).flatMap allL ++ nzL k
theorem mem_extL {L : List (List Bool)} {T : List Bool} : T ∈ extL L ↔ ∃ U b, U ∈ L ∧ T = U ++ [b] := by
  unfold extL
  rw [List.mem_flatMap]
  constructor
  · rintro ⟨U, hU, h⟩
    rcases List.mem_cons.1 h with h | h
    · exact ⟨U, false, hU, h⟩
    · exact ⟨U, true, hU, List.mem_singleton.1 h⟩
  · rintro ⟨U, b, hU, rfl⟩
    refine ⟨U, hU, ?_⟩
    cases b
    · exact .head _
    · exact .tail _ (.head _)
theorem extL_len (L : List (List Bool)) : (extL L).length = 2 * L.length := by
  unfold extL
  induction L with
  | nil => rfl
  | cons T L ih => rw [List.flatMap_cons, List.length_append, ih, List.length_cons]; simp; omega
theorem extL_nodup {L : List (List Bool)} (h : L.Nodup) : (extL L).Nodup := by
  unfold extL
  rw [List.nodup_iff_pairwise_ne, List.pairwise_flatMap]
  refine ⟨fun T _ => by simp, ?_⟩
  rw [List.nodup_iff_pairwise_ne] at h
  refine h.imp (fun {T U} hne x hx y hy e => hne ?_)
  have hx' : ∃ b, x = T ++ [b] := by
    rcases List.mem_cons.1 hx with h | h
    · exact ⟨_, h⟩
    · exact ⟨_, List.mem_singleton.1 h⟩
  have hy' : ∃ b, y = U ++ [b] := by
    rcases List.mem_cons.1 hy with h | h
    · exact ⟨_, h⟩
    · exact ⟨_, List.mem_singleton.1 h⟩
  obtain ⟨b, rfl⟩ := hx'
  obtain ⟨c, rfl⟩ := hy'
  exact (List.append_inj' e rfl).1
theorem snoc_of {T : List Bool} (h : 0 < T.length) : ∃ U b, T = U ++ [b] ∧ U.length + 1 = T.length := by
  have hn : T ≠ [] := fun e => by rw [e] at h; exact Nat.lt_irrefl _ h
  refine ⟨T.dropLast, T.getLast hn, (List.dropLast_concat_getLast hn).symm, ?_⟩
  rw [List.length_dropLast]; omega
theorem mem_allL : ∀ (j : Nat) (T : List Bool), T ∈ allL j ↔ T.length = j
  | 0, T => by
    show T ∈ [[]] ↔ _
    rw [List.mem_singleton, List.length_eq_zero_iff]
  | j + 1, T => by
    show T ∈ extL (allL j) ↔ _
    rw [mem_extL]
    constructor
    · rintro ⟨U, b, hU, rfl⟩
      rw [List.length_append, (mem_allL j U).1 hU]; rfl
    · intro h
      obtain ⟨U, b, rfl, hl⟩ := snoc_of (T := T) (by omega)
      exact ⟨U, b, (mem_allL j U).2 (by omega), rfl⟩
theorem allL_len : ∀ j, (allL j).length = 2 ^ j
  | 0 => rfl
  | j + 1 => by show (extL (allL j)).length = _; rw [extL_len, allL_len j, Nat.pow_succ]; omega
theorem allL_nodup : ∀ j, (allL j).Nodup
  | 0 => by simp [allL]
  | j + 1 => extL_nodup (allL_nodup j)
theorem no_true {T : List Bool} (h : true ∉ T) : T = List.replicate T.length false := by
  refine List.eq_replicate_iff.2 ⟨rfl, fun b hb => ?_⟩
  cases b
  · rfl
  · exact (h hb).elim
theorem mem_nzL : ∀ (j : Nat) (T : List Bool), T ∈ nzL j ↔ T.length = j ∧ true ∈ T
  | 0, T => by
    show T ∈ [] ↔ _
    refine ⟨fun h => (by cases h), fun ⟨h1, h2⟩ => ?_⟩
    rw [List.length_eq_zero_iff.1 h1] at h2
    cases h2
  | j + 1, T => by
    show T ∈ extL (nzL j) ++ [List.replicate j false ++ [true]] ↔ _
    rw [List.mem_append, mem_extL, List.mem_singleton]
    constructor
    · rintro (⟨U, b, hU, rfl⟩ | rfl)
      · obtain ⟨h1, h2⟩ := (mem_nzL j U).1 hU
        exact ⟨by rw [List.length_append, h1]; rfl, List.mem_append.2 (.inl h2)⟩
      · exact ⟨by simp, by simp⟩
    · rintro ⟨h1, h2⟩
      obtain ⟨U, b, rfl, hl⟩ := snoc_of (T := T) (by omega)
      by_cases c : true ∈ U
      · exact .inl ⟨U, b, (mem_nzL j U).2 ⟨by omega, c⟩, rfl⟩
      · right
        have hb : b = true := by
          rcases List.mem_append.1 h2 with x | x
          · exact (c x).elim
          · exact (List.mem_singleton.1 x).symm
        rw [no_true c, hb]
        congr 2
        omega
theorem nzL_len : ∀ j, (nzL j).length + 1 = 2 ^ j
  | 0 => rfl
  | j + 1 => by
    show (extL (nzL j) ++ [List.replicate j false ++ [true]]).length + 1 = _
    have := nzL_len j
    rw [List.length_append, extL_len, Nat.pow_succ, List.length_singleton]; omega
theorem nzL_nodup : ∀ j, (nzL j).Nodup
  | 0 => List.nodup_nil
  | j + 1 => by
    show (extL (nzL j) ++ [List.replicate j false ++ [true]]).Nodup
    refine List.nodup_append.2 ⟨extL_nodup (nzL_nodup j), by simp, fun x hx y hy e => ?_⟩
    obtain rfl := List.mem_singleton.1 hy
    obtain ⟨U, b, hU, rfl⟩ := mem_extL.1 hx
    have := (List.append_inj' e rfl).1
    have := ((mem_nzL j U).1 hU).2
    simp_all
theorem farI_len : ∀ k, (farI k).length = 2 ^ (k + 1) - 2 := fun k => by
  have h : ∀ k, ((List.range k).flatMap allL).length + 1 = 2 ^ k := fun k => by
    induction k with
    | zero => rfl
    | succ k ih =>
      rw [List.range_succ, List.flatMap_append, List.length_append, List.flatMap_cons, List.flatMap_nil, List.append_nil, allL_len, Nat.pow_succ]
      omega
  have h1 := h k
  have h2 := nzL_len k
  unfold farI
  rw [List.length_append, Nat.pow_succ]
  omega
theorem mem_farI {k : Nat} {T : List Bool} : T ∈ farI k ↔ T.length < k ∨ (T.length = k ∧ true ∈ T) := by
  unfold farI
  rw [List.mem_append, mem_nzL, List.mem_flatMap]
  refine or_congr ⟨?_, fun h => ⟨T.length, List.mem_range.2 h, (mem_allL _ _).2 rfl⟩⟩ Iff.rfl
  rintro ⟨j, hj, h⟩
  rw [(mem_allL j T).1 h]
  exact List.mem_range.1 hj
theorem farI_nodup (k : Nat) : (farI k).Nodup := by
  unfold farI
  refine List.nodup_append.2 ⟨?_, nzL_nodup k, fun x hx y hy e => ?_⟩
  · rw [List.nodup_iff_pairwise_ne, List.pairwise_flatMap]
    refine ⟨fun j _ => by have := allL_nodup j; rwa [List.nodup_iff_pairwise_ne] at this, ?_⟩
    have := List.nodup_range (n := k)
    rw [List.nodup_iff_pairwise_ne] at this
    refine this.imp (fun {i j} hne x hx y hy e => hne ?_)
    rw [← (mem_allL i x).1 hx, ← (mem_allL j y).1 hy, e]
  · obtain ⟨j, hj, h⟩ := List.mem_flatMap.1 hx
    have h1 := (mem_allL j x).1 h
    have h2 := ((mem_nzL k y).1 hy).1
    have := List.mem_range.1 hj
    rw [e] at h1
    omega

/-! ### the functions -/
theorem pair_set {k : Nat} {T : List Bool} (h : T.length < k) (a : Nat → Bool) (b : Bool) : pairF k T (Mgr.upd a T.length b) = pairF k (T ++ [b]) a := by
  unfold pairF
  refine any_same (fun i hi => ?_)
  rw [Mgr.upd_other a _ (i + k) b (by omega), List.length_append, List.length_singleton]
  congr 1
  rcases Nat.lt_trichotomy i T.length with c | c | c
  · rw [decide_eq_false (by omega), decide_eq_false (by omega), Bool.false_and, Bool.false_and, List.getD_eq_getElem?_getD, List.getD_eq_getElem?_getD, List.getElem?_append_left c]
  · rw [c, Mgr.upd_same, decide_eq_true (Nat.le_refl _), decide_eq_false (by omega), getD_b (Nat.le_refl _), List.getD_eq_getElem?_getD, List.getElem?_append_right (Nat.le_refl _), Nat.sub_self]
    cases b <;> rfl
  · rw [Mgr.upd_other a _ i b (by omega), decide_eq_true (by omega), decide_eq_true (by omega), getD_b (by omega), getD_b (by rw [List.length_append]; exact c)]
theorem pair_out {k : Nat} {T : List Bool} {j : Nat} (a : Nat → Bool) (b : Bool) (h1 : j < T.length ∨ k ≤ j) (h2 : ∀ i, j = i + k → i < k → T.getD i false = false ∧ T.length = k) : pairF k T (Mgr.upd a j b) = pairF k T a := by
  unfold pairF
  refine any_same (fun i hi => ?_)
  by_cases c : j = i + k
  · obtain ⟨e1, e2⟩ := h2 i c hi
    rw [e1, decide_eq_false (by omega)]; rfl
  · rw [Mgr.upd_other a _ (i + k) b (by omega)]
    by_cases d : T.length ≤ i
    · rw [Mgr.upd_other a _ i b (by omega)]
    · rw [decide_eq_false d]; rfl
theorem idx_at : ∀ {T : List Bool}, true ∈ T → T.idxOf true < T.length ∧ T.getD (T.idxOf true) false = true ∧ ∀ i, i < T.idxOf true → T.getD i false = false
  | [], h => by cases h
  | true :: T, _ => by
    rw [List.idxOf_cons_self]
    exact ⟨by simp, rfl, fun i hi => absurd hi (by omega)⟩
  | false :: T, h => by
    have h' : true ∈ T := by simpa using h
    obtain ⟨h1, h2, h3⟩ := idx_at h'
    have e : (false :: T).idxOf true = T.idxOf true + 1 := by
      rw [List.idxOf_cons]; rfl
    rw [e]
    refine ⟨by rw [List.length_cons]; omega, h2, fun i hi => ?_⟩
    cases i with
    | zero => rfl
    | succ i => exact h3 i (by omega)
theorem zeroF {k : Nat} {T : List Bool} (hl : T.length = k) (h : true ∉ T) (a : Nat → Bool) : pairF k T a = false := by
  refine any_no (fun i hi => ?_)
  rw [decide_eq_false (by omega)]
  have : T.getD i false = false := by
    rw [no_true h, List.getD_eq_getElem?_getD, List.getElem?_replicate]
    split <;> rfl
  rw [this]; rfl
theorem pair_y0 {k : Nat} {T : List Bool} (hl : T.length = k) {q : Nat} (a : Nat → Bool) : pairF k T (Mgr.upd a (k + q) false) = pairF k (T.set q false) a := by
  unfold pairF
  refine any_same (fun i hi => ?_)
  rw [List.length_set, decide_eq_false (by omega), Bool.false_and, Bool.or_false, Bool.false_and, Bool.or_false]
  by_cases c : i = q
  · rw [c, Nat.add_comm q k, Mgr.upd_same, Bool.and_false, List.getD_eq_getElem?_getD, List.getElem?_set_self (by omega)]; rfl
  · rw [Mgr.upd_other a _ (i + k) false (by omega), List.getD_eq_getElem?_getD, List.getD_eq_getElem?_getD, List.getElem?_set_ne (fun e => c e.symm)]
theorem pair_y1 {k : Nat} {T : List Bool} {q : Nat} (hq : q < k) (h : T.getD q false = true) (a : Nat → Bool) : pairF k T (Mgr.upd a (k + q) true) = true := by
  unfold pairF
  rw [List.any_eq_true]
  refine ⟨q, List.mem_range.2 hq, ?_⟩
  rw [h, Nat.add_comm q k, Mgr.upd_same]; rfl
theorem range_getD {n i : Nat} (h : i < n) : (List.range n).getD i 0 = i := by rw [List.getD_eq_getElem?_getD, List.getElem?_range h]; rfl

theorem pairs_dia {k : Nat} (hk : 0 < k) : Dia (List.range (2 * k)) (farI k) [[]] (pS k) (pDp k) (pLo k) (pHi k) := by
  have le : ∀ T, T ∈ farI k → T.length ≤ k := fun T h => by rcases mem_farI.1 h with h | h <;> omega
  have sS : ∀ {T : List Bool}, T.length ≤ k → pS k T = pairF k T := fun h => if_pos h
  have ge : ∀ T, T ∈ farI k → ¬ T.length < k → T.length = k ∧ true ∈ T := fun T h c => (mem_farI.1 h).resolve_left c
  have dpn : ∀ T, T ∈ farI k → pDp k T < 2 * k := fun T h => by
    unfold pDp
    by_cases c : T.length < k
    · rw [if_pos c]; omega
    · rw [if_neg c]
      obtain ⟨e, m⟩ := ge T h c
      have := (idx_at m).1
      omega
  have up : ∀ T b, T.length < k → (T ++ [b] ∈ farI k → pDp k T < pDp k (T ++ [b])) := fun T b c h => by
    unfold pDp
    rw [if_pos c, List.length_append, List.length_singleton]
    split <;> omega
  refine ⟨farI_nodup k, fun T U hT hU e => ?_, fun T hT => ?_, fun T hT => by rw [List.length_range]; exact dpn T hT, fun T hT a => ?_, fun T hT a => ?_, fun T hT => ?_, fun T hT => ?_, fun T hT j hj a b => ?_, fun T hT => ?_, fun T hT => ?_⟩
  · have h1 := le T hT
    have h2 := le U hU
    rw [sS h1, sS h2] at e
    have no : ∀ {T U : List Bool}, pairF k T = pairF k U → T.length < U.length → U.length ≤ k → False := fun {T U} e c hl => by
      have e1 := pairF_x (k := k) (j := T.length) (T := T) (b := true) (by omega) (Nat.le_refl _)
      have e2 := pairF_x (k := k) (j := T.length) (T := T) (b := false) (by omega) (Nat.le_refl _)
      rw [e, pairF_y (by omega) c] at e1 e2
      rw [e1] at e2; cases e2
    rcases Nat.lt_trichotomy T.length U.length with c | c | c
    · exact (no e c h2).elim
    · apply List.ext_getElem c
      intro i i1 i2
      have e1 := pairF_y (k := k) (T := T) (b := false) (show i < k by omega) i1
      have e2 := pairF_y (k := k) (T := U) (b := false) (show i < k by omega) i2
      rw [e, e2, List.getD_eq_getElem?_getD, List.getD_eq_getElem?_getD, List.getElem?_eq_getElem i1, List.getElem?_eq_getElem i2] at e1
      exact e1.symm
    · exact (no e.symm c h1).elim
  · rw [sS (le T hT)]
    by_cases c : T.length < k
    · refine ⟨xyA k T.length true, xyA k T.length false, ?_⟩
      rw [pairF_x c (Nat.le_refl _), pairF_x c (Nat.le_refl _)]; simp
    · obtain ⟨e, m⟩ := ge T hT c
      obtain ⟨i1, i2, _⟩ := idx_at m
      refine ⟨xyA k (T.idxOf true) false, fun _ => false, ?_⟩
      rw [pairF_y (by omega) i1, pairF_0, i2]; simp
  · rw [range_getD (dpn T hT), sS (le T hT)]
    unfold pDp pLo
    by_cases c : T.length < k
    · rw [if_pos c, if_pos c, pair_set c, sS (by rw [List.length_append]; exact c)]
    · rw [if_neg c, if_neg c]
      obtain ⟨e, m⟩ := ge T hT c
      rw [pair_y0 e, sS (by rw [List.length_set]; omega)]
  · rw [range_getD (dpn T hT), sS (le T hT)]
    unfold pDp pHi
    by_cases c : T.length < k
    · rw [if_pos c, if_pos c, pair_set c, sS (by rw [List.length_append]; exact c)]
    · rw [if_neg c, if_neg c]
      obtain ⟨e, m⟩ := ge T hT c
      obtain ⟨i1, i2, _⟩ := idx_at m
      rw [pair_y1 (by omega) i2]
      unfold pS
      rw [if_neg (by rw [List.length_replicate]; omega)]
  · by_cases c : T.length < k
    · have e : pLo k T = T ++ [false] := if_pos c
      rw [e]
      by_cases h : T ++ [false] ∈ farI k
      · exact .inl ⟨h, up T _ c h⟩
      · refine .inr ⟨h, ?_⟩
        rw [mem_farI, List.length_append, List.length_singleton] at h
        have h1 : T.length + 1 = k := by omega
        have h2 : true ∉ T ++ [false] := fun x => h (.inr ⟨h1, x⟩)
        have hl : (T ++ [false]).length = k := by rw [List.length_append]; exact h1
        rw [sS (by omega)]
        exact fun ⟨x, y, e⟩ => e (by rw [zeroF hl h2, zeroF hl h2])
    · have e : pLo k T = T.set (T.idxOf true) false := if_neg c
      obtain ⟨el, m⟩ := ge T hT c
      obtain ⟨i1, i2, i3⟩ := idx_at m
      rw [e]
      have hl : (T.set (T.idxOf true) false).length = k := by rw [List.length_set]; exact el
      by_cases h : true ∈ T.set (T.idxOf true) false
      · refine .inl ⟨mem_farI.2 (.inr ⟨hl, h⟩), ?_⟩
        unfold pDp
        rw [if_neg c, if_neg (by omega)]
        obtain ⟨j1, j2, _⟩ := idx_at h
        have g : ∀ i, i ≤ T.idxOf true → (T.set (T.idxOf true) false).getD i false = false := fun i hi => by
          by_cases c2 : i = T.idxOf true
          · rw [c2, List.getD_eq_getElem?_getD, List.getElem?_set_self i1]; rfl
          · rw [List.getD_eq_getElem?_getD, List.getElem?_set_ne (fun e => c2 e.symm), ← List.getD_eq_getElem?_getD]
            exact i3 i (by omega)
        rcases Nat.lt_or_ge (T.idxOf true) ((T.set (T.idxOf true) false).idxOf true) with x | x
        · omega
        · rw [g _ x] at j2; cases j2
      · refine .inr ⟨fun x => ?_, ?_⟩
        · rcases mem_farI.1 x with x | x
          · omega
          · exact h x.2
        · rw [sS (by omega)]
          exact fun ⟨x, y, e⟩ => e (by rw [zeroF hl h, zeroF hl h])
  · by_cases c : T.length < k
    · have e : pHi k T = T ++ [true] := if_pos c
      rw [e]
      have h : T ++ [true] ∈ farI k := by
        rw [mem_farI, List.length_append, List.length_singleton]
        by_cases h1 : T.length + 1 < k
        · exact .inl h1
        · exact .inr ⟨by omega, by simp⟩
      exact .inl ⟨h, up T _ c h⟩
    · have e : pHi k T = List.replicate (k + 1) true := if_neg c
      rw [e]
      refine .inr ⟨fun x => ?_, ?_⟩
      · have := le _ x
        rw [List.length_replicate] at this
        omega
      · unfold pS
        rw [if_neg (by rw [List.length_replicate]; omega)]
        exact fun ⟨x, y, e⟩ => e rfl
  · have hd := dpn T hT
    rw [range_getD (show j < 2 * k by omega), sS (le T hT)]
    unfold pDp at hj
    by_cases c : T.length < k
    · rw [if_pos c] at hj
      exact pair_out a b (.inl hj) (fun i e hi => by omega)
    · rw [if_neg c] at hj
      obtain ⟨e, m⟩ := ge T hT c
      obtain ⟨i1, i2, i3⟩ := idx_at m
      refine pair_out a b ?_ (fun i ei hi => ⟨i3 i (by omega), e⟩)
      by_cases x : j < T.length
      · exact .inl x
      · exact .inr (by omega)
  · obtain rfl := List.mem_singleton.1 hT
    exact .inl (mem_farI.2 (.inl hk))
  · by_cases c : T.length = 0
    · rw [List.length_eq_zero_iff.1 c]
      exact .inl (.head _)
    · right
      obtain ⟨U, b, rfl, hl⟩ := snoc_of (T := T) (by omega)
      have := le _ hT
      have hU : U.length < k := by omega
      refine ⟨U, mem_farI.2 (.inl hU), ?_⟩
      unfold pLo pHi
      rw [if_pos hU, if_pos hU]
      cases b
      · exact .inl rfl
      · exact .inr rfl
theorem pairs_far {k : Nat} (hk : 0 < k) : IsTot (List.range (2 * k)) [pairF k []] (2 ^ (k + 1) - 2) := by
  have := (pairs_dia hk).tot
  rw [farI_len] at this
  exact this

/-! ### neighbors -/
def nearL (k : Nat) : Nat → List Nat
  | 0 => []
  | i + 1 => nearL k i ++ [i, i + k]
theorem nearL_map (k : Nat) : ∀ i, nearL k i = (List.range (2 * i)).map fun j => if j % 2 = 0 then j / 2 else j / 2 + k
  | 0 => rfl
  | i + 1 => by
    unfold nearL
    rw [nearL_map k i, show 2 * (i + 1) = 2 * i + 1 + 1 by omega, List.range_succ, List.range_succ, List.map_append, List.map_append, List.append_assoc]
    congr 1
    simp
    omega
theorem nearL_len (k i : Nat) : (nearL k i).length = 2 * i := by rw [nearL_map]; simp
theorem nearL_get {k i j : Nat} (h : j < 2 * i) : (nearL k i).getD j 0 = if j % 2 = 0 then j / 2 else j / 2 + k := by
  rw [nearL_map, List.getD_eq_getElem?_getD, List.getElem?_map, List.getElem?_range h]; rfl
theorem nearL_perm (k : Nat) : PermL (nearL k k) := by
  refine ⟨?_, fun v hv => ?_⟩
  · rw [List.nodup_iff_pairwise_ne, List.pairwise_iff_getElem]
    intro i j hi hj hij e
    have hi' := hi
    have hj' := hj
    rw [nearL_len] at hi' hj'
    have e1 : (nearL k k)[i] = (nearL k k).getD i 0 := by rw [List.getD_eq_getElem?_getD, List.getElem?_eq_getElem hi]; rfl
    have e2 : (nearL k k)[j] = (nearL k k).getD j 0 := by rw [List.getD_eq_getElem?_getD, List.getElem?_eq_getElem hj]; rfl
    rw [e1, e2, nearL_get hi', nearL_get hj'] at e
    split at e <;> split at e <;> omega
  · obtain ⟨i, hi, rfl⟩ := List.getElem_of_mem hv
    have hi' := hi
    rw [nearL_len] at hi' ⊢
    have e1 : (nearL k k)[i] = (nearL k k).getD i 0 := by rw [List.getD_eq_getElem?_getD, List.getElem?_eq_getElem hi]; rfl
    rw [e1, nearL_get hi']
    split <;> omega
/-- The pairs from i on. -/
def sufF (k i : Nat) : Bfn := fun a => (List.range k).any fun j => decide (i ≤ j) && (a j && a (j + k))
theorem sufF_xy {k i j : Nat} {b : Bool} (hj : j < k) (h : i ≤ j) : sufF k i (xyA k j b) = b := by
  unfold sufF
  rw [any_one hj (fun i _ hne => by rw [xyA_y hj hne, Bool.and_false, Bool.and_false]), xyA_t, decide_eq_true h, xyA_x (by omega), Bool.true_and, Bool.and_true]
theorem sufF_0 (k i : Nat) : sufF k i (fun _ => false) = false := any_no (fun _ _ => Bool.and_false _)
theorem sufF_end (k : Nat) (a : Nat → Bool) : sufF k k a = false := any_no (fun j hj => by rw [decide_eq_false (by omega)]; rfl)
theorem sufF_succ {k i : Nat} (h : i < k) (a : Nat → Bool) : sufF k i a = (a i && a (i + k) || sufF k (i + 1) a) := by
  unfold sufF
  rw [Bool.eq_iff_iff, Bool.or_eq_true, List.any_eq_true, List.any_eq_true]
  constructor
  · rintro ⟨j, hj, e⟩
    rw [Bool.and_eq_true, decide_eq_true_eq] at e
    by_cases c : j = i
    · left; rw [← c]; exact e.2
    · exact .inr ⟨j, hj, by rw [Bool.and_eq_true, decide_eq_true_eq]; exact ⟨by omega, e.2⟩⟩
  · rintro (e | ⟨j, hj, e⟩)
    · exact ⟨i, List.mem_range.2 h, by rw [decide_eq_true (Nat.le_refl _)]; exact e⟩
    · rw [Bool.and_eq_true, decide_eq_true_eq] at e
      exact ⟨j, hj, by rw [Bool.and_eq_true, decide_eq_true_eq]; exact ⟨by omega, e.2⟩⟩
theorem sufF_out {k i v : Nat} (a : Nat → Bool) (b : Bool) (h : v < i ∨ (k ≤ v ∧ v < k + i)) (_hi : i ≤ k) : sufF k i (Mgr.upd a v b) = sufF k i a := by
  unfold sufF
  refine any_same (fun j hj => ?_)
  by_cases c : i ≤ j
  · rw [Mgr.upd_other a _ j b (by omega), Mgr.upd_other a _ (j + k) b (by omega)]
  · rw [decide_eq_false c]; rfl
def nS (k j : Nat) : Bfn := if j = 2 * k + 1 then fun _ => true else if j % 2 = 0 then sufF k (j / 2) else fun a => a (j / 2 + k) || sufF k (j / 2 + 1) a
theorem near_dia {k : Nat} (hk : 0 < k) : Dia (nearL k k) (List.range (2 * k)) [0] (nS k) id (fun j => 2 * (j / 2 + 1)) (fun j => if j % 2 = 0 then j + 1 else 2 * k + 1) := by
  have lt : ∀ {j}, j ∈ List.range (2 * k) → j < 2 * k := List.mem_range.1
  have s0 : ∀ {j}, j < 2 * k → j % 2 = 0 → nS k j = sufF k (j / 2) := fun {j} h1 h2 => by unfold nS; rw [if_neg (by omega), if_pos h2]
  have s1 : ∀ {j}, j < 2 * k → ¬ j % 2 = 0 → nS k j = fun a => a (j / 2 + k) || sufF k (j / 2 + 1) a := fun {j} h1 h2 => by unfold nS; rw [if_neg (by omega), if_neg h2]
  have se : ∀ {i}, i ≤ k → nS k (2 * i) = sufF k i := fun {i} h => by
    unfold nS
    rw [if_neg (by omega), if_pos (by omega), show 2 * i / 2 = i by omega]
  have st : nS k (2 * k + 1) = fun _ => true := if_pos rfl
  have ind : ∀ i, i < 2 * k → ∀ j, j < i → ∀ a b, nS k i (Mgr.upd a ((nearL k k).getD j 0) b) = nS k i a := fun i hi j hj a b => by
    rw [nearL_get (by omega)]
    by_cases c : i % 2 = 0
    · rw [s0 hi c]
      refine sufF_out a b ?_ (by omega)
      split
      · left; omega
      · right; omega
    · rw [s1 hi c]
      show (Mgr.upd a _ b (i / 2 + k) || sufF k (i / 2 + 1) (Mgr.upd a _ b)) = _
      rw [sufF_out a b ?_ (by omega), Mgr.upd_other a _ (i / 2 + k) b ?_]
      · split <;> omega
      · split
        · left; omega
        · right; omega
  have dep : ∀ i, i < 2 * k → ∃ a, nS k i (Mgr.upd a ((nearL k k).getD i 0) true) ≠ nS k i (Mgr.upd a ((nearL k k).getD i 0) false) := fun i hi => by
    rw [nearL_get hi]
    by_cases c : i % 2 = 0
    · rw [if_pos c, s0 hi c]
      refine ⟨xyA k (i / 2) true, ?_⟩
      have e : ∀ b, Mgr.upd (xyA k (i / 2) true) (i / 2) b = xyA k (i / 2) b := fun b => by
        funext v
        by_cases h : v = i / 2
        · rw [h, Mgr.upd_same, xyA_x hk]
        · rw [Mgr.upd_other _ _ v b h]
          unfold xyA
          rw [decide_eq_false h, Bool.and_false, Bool.and_false]
      rw [e, e, sufF_xy (by omega) (Nat.le_refl _), sufF_xy (by omega) (Nat.le_refl _)]; simp
    · rw [if_neg c, s1 hi c]
      refine ⟨fun _ => false, ?_⟩
      show ¬ (Mgr.upd _ _ true (i / 2 + k) || sufF k (i / 2 + 1) (Mgr.upd _ _ true)) = (Mgr.upd _ _ false (i / 2 + k) || sufF k (i / 2 + 1) (Mgr.upd _ _ false))
      rw [Mgr.upd_same, Mgr.upd_same, sufF_out _ true (.inr (by omega)) (by omega), sufF_out _ false (.inr (by omega)) (by omega), sufF_0]; simp
  have no : ∀ i j, i < j → j < 2 * k → nS k i = nS k j → False := fun i j h1 h2 e => by
    obtain ⟨a, ha⟩ := dep i (by omega)
    rw [e, ind j h2 i h1, ind j h2 i h1] at ha
    exact ha rfl
  refine ⟨List.nodup_range, fun i j hi hj e => ?_, fun i hi => ?_, fun i hi => by rw [nearL_len]; exact lt hi, fun i hi a => ?_, fun i hi a => ?_, fun i hi => ?_, fun i hi => ?_, fun i hi j hj a b => ind i (lt hi) j hj a b, fun e he => ?_, fun i hi => ?_⟩
  · rcases Nat.lt_trichotomy i j with c | c | c
    · exact (no i j c (lt hj) e).elim
    · exact c
    · exact (no j i c (lt hi) e.symm).elim
  · obtain ⟨a, ha⟩ := dep i (lt hi)
    exact ⟨_, _, ha⟩
  · have h := lt hi
    show nS k i (Mgr.upd a ((nearL k k).getD i 0) false) = nS k (2 * (i / 2 + 1)) a
    rw [nearL_get h, se (by omega)]
    by_cases c : i % 2 = 0
    · rw [if_pos c, s0 h c, sufF_succ (by omega), Mgr.upd_same, Bool.false_and, Bool.false_or, sufF_out _ _ (.inl (by omega)) (by omega)]
    · rw [if_neg c, s1 h c]
      show (Mgr.upd _ _ false (i / 2 + k) || sufF k (i / 2 + 1) (Mgr.upd _ _ false)) = _
      rw [Mgr.upd_same, Bool.false_or, sufF_out _ _ (.inr (by omega)) (by omega)]
  · have h := lt hi
    show nS k i (Mgr.upd a ((nearL k k).getD i 0) true) = nS k (if i % 2 = 0 then i + 1 else 2 * k + 1) a
    rw [nearL_get h]
    by_cases c : i % 2 = 0
    · rw [if_pos c, if_pos c, s0 h c, s1 (by omega) (by omega), sufF_succ (by omega), Mgr.upd_same, Bool.true_and, Mgr.upd_other a _ (i / 2 + k) true (by omega), sufF_out _ _ (.inl (by omega)) (by omega), show (i + 1) / 2 = i / 2 by omega]
    · rw [if_neg c, if_neg c, s1 h c, st]
      show (Mgr.upd _ _ true (i / 2 + k) || _) = true
      rw [Mgr.upd_same]; rfl
  · have h := lt hi
    by_cases c : 2 * (i / 2 + 1) < 2 * k
    · exact .inl ⟨List.mem_range.2 c, by show i < 2 * (i / 2 + 1); omega⟩
    · refine .inr ⟨fun x => c (lt x), ?_⟩
      have e : i / 2 + 1 = k := by omega
      show ¬ Mgr.NonConst (nS k (2 * (i / 2 + 1)))
      rw [e, se (Nat.le_refl _)]
      exact fun ⟨x, y, e⟩ => e (by rw [sufF_end, sufF_end])
  · have h := lt hi
    by_cases c : i % 2 = 0
    · show (if i % 2 = 0 then i + 1 else 2 * k + 1) ∈ _ ∧ _ < (if i % 2 = 0 then i + 1 else 2 * k + 1) ∨ _
      rw [if_pos c]
      exact .inl ⟨List.mem_range.2 (by omega), Nat.lt_succ_self i⟩
    · right
      show (if i % 2 = 0 then i + 1 else 2 * k + 1) ∉ _ ∧ ¬ Mgr.NonConst (nS k (if i % 2 = 0 then i + 1 else 2 * k + 1))
      rw [if_neg c, st]
      exact ⟨fun x => by have := lt x; omega, fun ⟨x, y, e⟩ => e rfl⟩
  · obtain rfl := List.mem_singleton.1 he
    exact .inl (List.mem_range.2 (by omega))
  · have h := lt hi
    by_cases c0 : i = 0
    · rw [c0]; exact .inl (.head _)
    · right
      by_cases c : i % 2 = 0
      · exact ⟨i - 1, List.mem_range.2 (by omega), .inl (by show i = 2 * ((i - 1) / 2 + 1); omega)⟩
      · exact ⟨i - 1, List.mem_range.2 (by omega), .inr (by show i = if (i - 1) % 2 = 0 then i - 1 + 1 else 2 * k + 1; rw [if_pos (by omega)]; omega)⟩
theorem pairs_near {k : Nat} (hk : 0 < k) : IsTot (nearL k k) [pairF k []] (2 * k) := by
  have := (near_dia hk).tot
  rw [List.length_range] at this
  have e : [0].map (nS k) = [pairF k []] := by
    show [nS k 0] = _
    unfold nS
    rw [if_neg (by omega), if_pos rfl]
    congr 1
  rw [e] at this
  exact this

end Go.Proofs.Ytngbodmooddjbaa
