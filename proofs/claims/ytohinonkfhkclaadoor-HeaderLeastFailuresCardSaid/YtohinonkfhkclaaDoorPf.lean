/-
  Plain mathematics: the law FailureProjects.
-/
import Derived.Test.YtohinonkfhkclaaDoorFq
import Derived.Test.YtohinonkfhkclaaDoorFrf
import Derived.Test.YtohinonkfhkclaaDoorQn
namespace Go.Proofs.YtohinonkfhkclaaDoor
open Go.RowKit

/-- The packets with a destination port. -/
def pF (p : Nat) : Bfn := rgF 4 false p p
theorem pF_congr {p : Nat} {a b : Nat → Bool} (h : ∀ i, i < 16 → a (fvar 4 i false) = b (fvar 4 i false)) : pF p a = pF p b := by
  have e : fval 4 false a = fval 4 false b := by
    unfold fval
    exact bval_congr _ (fun i hi => h _ (by have : fw 4 = 16 := rfl; omega))
  unfold pF rgF
  rw [e]
theorem pv_ge (i : Nat) : 12 ≤ fvar 4 i false := by unfold fvar hvar; omega
theorem pv_lt {i : Nat} (h : i < 16) : fvar 4 i false < 220 := fvar_lt (by omega) (by exact h) false

theorem exS_iff (s : Nat) (a : Nat → Bool) : exS s a = true ↔ ∀ v, v < 12 → a v = s.testBit v := by
  unfold exS
  rw [exF_eq _ _ 12 (Nat.le_refl _)]
  have e : ∀ v, v < 12 → dnF ((dwL s).map Int.ofNat) v = s.testBit v := fun v hv => by
    rw [dnF_map, Bool.eq_iff_iff, decide_eq_true_eq, dwL_mem]
    exact ⟨fun h => h.2, fun h => ⟨hv, h⟩⟩
  exact ⟨fun h v hv => by rw [h v (by omega) hv, e v hv], fun h v _ hv => by rw [h v hv, e v hv]⟩
theorem exS_congr {s : Nat} {a b : Nat → Bool} (h : ∀ v, v < 12 → a v = b v) : exS s a = exS s b := by
  rw [Bool.eq_iff_iff, exS_iff, exS_iff]
  exact ⟨fun g v hv => by rw [← h v hv]; exact g v hv, fun g v hv => by rw [h v hv]; exact g v hv⟩

section
variable (ss ps : List Nat)
def fpF (i : Nat) : Bfn := fun a => (List.range i).any fun j => exS (ss.getD j 0) a && pF (ps.getD j 0) a
def soF (i : Nat) : Bfn := fun a => (List.range i).any fun j => exS (ss.getD j 0) a
def waF (t i : Nat) : Bfn := fun a => (List.range i).any fun j => decide (dwL (ss.getD j 0) = dwL t) && pF (ps.getD j 0) a
def inP (t q i : Nat) : Bool := (List.range i).any fun j => decide (dwL (ss.getD j 0) = dwL t) && decide (ps.getD j 0 = q)
theorem fpF_succ (i : Nat) : fpF ss ps (i + 1) = fun a => fpF ss ps i a || (exS (ss.getD i 0) a && pF (ps.getD i 0) a) := by
  funext a; unfold fpF; rw [List.range_succ, List.any_append]; simp
theorem soF_succ (i : Nat) : soF ss (i + 1) = fun a => soF ss i a || exS (ss.getD i 0) a := by
  funext a; unfold soF; rw [List.range_succ, List.any_append]; simp
theorem waF_yes (t i : Nat) (h : dwL (ss.getD i 0) = dwL t) : waF ss ps t (i + 1) = fun a => waF ss ps t i a || pF (ps.getD i 0) a := by
  funext a; unfold waF; rw [List.range_succ, List.any_append]; simp only [List.any_cons, List.any_nil, Bool.or_false, h, decide_true, Bool.true_and]
theorem waF_no (t i : Nat) (h : dwL (ss.getD i 0) ≠ dwL t) : waF ss ps t (i + 1) = waF ss ps t i := by
  funext a; unfold waF; rw [List.range_succ, List.any_append]; simp only [List.any_cons, List.any_nil, Bool.or_false, h, decide_false, Bool.false_and]
theorem inP_yes (t q i : Nat) (h : dwL (ss.getD i 0) = dwL t) : inP ss ps t q (i + 1) = (inP ss ps t q i || decide (ps.getD i 0 = q)) := by
  unfold inP; rw [List.range_succ, List.any_append]; simp only [List.any_cons, List.any_nil, Bool.or_false, h, decide_true, Bool.true_and]
theorem inP_no (t q i : Nat) (h : dwL (ss.getD i 0) ≠ dwL t) : inP ss ps t q (i + 1) = inP ss ps t q i := by
  unfold inP; rw [List.range_succ, List.any_append]; simp only [List.any_cons, List.any_nil, Bool.or_false, h, decide_false, Bool.false_and]
end

/-! ### how many cofactors -/
/-- a for the links, y for the rest. -/
def jn (a y : Nat → Bool) : Nat → Bool := fun v => if v < 12 then a v else y v
structure FP (K : Nat) (F : Bfn) : Prop where
  rp : ∀ a b : Nat → Bool, (∀ v, v < 12 → a v = b v) → (∀ i, i < 16 → a (fvar 4 i false) = b (fvar 4 i false)) → F a = F b
  cls : ∃ cl : (Nat → Bool) → Nat, (∀ a, cl a < K) ∧ ∀ a a', cl a = cl a' → ∀ y, F (jn a y) = F (jn a' y)
theorem FP.st {K : Nat} {F : Bfn} (h : FP K F) : PSt 220 F (4096 + K * 65536) := fun M hn hp => by
  obtain ⟨cl, h1, h2⟩ := h.cls
  refine ⟨fun d a => if d ≤ 12 then Mgr.code 12 a else 4096 + (cl a * 65536 + Mgr.code 16 (fun i => a (fvar 4 i false))), fun d a => ?_, fun d a a' e b => ?_⟩
  · have c1 := Mgr.code_lt 12 a
    have c2 := Mgr.code_lt 16 (fun i => a (fvar 4 i false))
    have c3 : (cl a + 1) * 65536 ≤ K * 65536 := Nat.mul_le_mul_right _ (h1 a)
    rw [Nat.add_mul] at c3
    dsimp only
    have : (2 : Nat) ^ 12 = 4096 := rfl
    have : (2 : Nat) ^ 16 = 65536 := rfl
    split <;> omega
  · dsimp only at e
    by_cases hd : d ≤ 12
    · rw [if_pos hd, if_pos hd] at e
      have ag := Mgr.code_inj 12 a a' e
      refine h.rp _ _ (fun v hv => ?_) (fun i hi => ?_)
      · unfold Mgr.mix; rw [ag v hv]
      · unfold Mgr.mix
        have := pv_ge i
        rw [hp _ (by rw [hn]; exact pv_lt hi), if_neg (by omega), if_neg (by omega)]
    · rw [if_neg hd, if_neg hd] at e
      have c2 := Mgr.code_lt 16 (fun i => a (fvar 4 i false))
      have c2' := Mgr.code_lt 16 (fun i => a' (fvar 4 i false))
      have p16 : (2 : Nat) ^ 16 = 65536 := rfl
      have e1 : cl a = cl a' := by omega
      have ag := Mgr.code_inj 16 _ _ (show Mgr.code 16 (fun i => a (fvar 4 i false)) = Mgr.code 16 (fun i => a' (fvar 4 i false)) by omega)
      have g1 : ∀ x : Nat → Bool, F (M.mix d x b) = F (jn x (M.mix d x b)) := fun x => h.rp _ _ (fun v hv => by
        unfold jn; rw [if_pos hv]; unfold Mgr.mix; rw [hp v (by omega), if_pos (by omega)]) (fun i hi => by
        unfold jn; have := pv_ge i; rw [if_neg (by omega)])
      rw [g1 a, g1 a', h2 a a' e1]
      refine h.rp _ _ (fun v hv => by unfold jn; rw [if_pos hv, if_pos hv]) (fun i hi => ?_)
      unfold jn
      have := pv_ge i
      rw [if_neg (by omega), if_neg (by omega)]
      unfold Mgr.mix
      rw [ag i hi]
theorem FP.un {K : Nat} {F : Bfn} (h : FP K F) (T : Nat → Bool) {i : Nat} (hi : i ≤ 12) : FP K (unF T i F) := by
  obtain ⟨cl, h1, h2⟩ := h.cls
  refine ⟨fun a b g1 g2 => h.rp _ _ (fun v hv => ?_) (fun j hj => ?_), fun a => cl (fun v => if v < i then T v else a v), fun a => h1 _, fun a a' e y => ?_⟩
  · show (if v < i then T v else a v) = if v < i then T v else b v
    rw [g1 v hv]
  · show (if fvar 4 j false < i then _ else _) = if fvar 4 j false < i then _ else _
    rw [g2 j hj]
  · have e2 : ∀ x : Nat → Bool, (fun v => if v < i then T v else jn x y v) = jn (fun v => if v < i then T v else x v) y := fun x => by
      funext v
      unfold jn
      by_cases c1 : v < i
      · have c2 : v < 12 := by omega
        simp only [c1, c2, if_true]
      · by_cases c2 : v < 12
        · simp only [c1, c2, if_true, if_false]
        · simp only [c1, c2, if_false]
    show F (fun v => if v < i then T v else jn a y v) = F (fun v => if v < i then T v else jn a' y v)
    rw [e2, e2]
    exact h2 _ _ e y
theorem fpF_fp (ss ps : List Nat) (i : Nat) : FP (i + 1) (fpF ss ps i) := by
  refine ⟨fun a b g1 g2 => ?_, fun a => ((List.range i).find? fun j => exS (ss.getD j 0) a).getD i, fun a => ?_, fun a a' e y => ?_⟩
  · unfold fpF
    congr 1
    funext j
    rw [exS_congr g1, pF_congr g2]
  · show Option.getD _ i < i + 1
    cases hf : (List.range i).find? fun j => exS (ss.getD j 0) a with
    | none => exact Nat.lt_succ_self i
    | some j => have := List.mem_range.1 (List.mem_of_find?_eq_some hf); show j < i + 1; omega
  · have key : ∀ j, j < i → exS (ss.getD j 0) a = exS (ss.getD j 0) a' := by
      dsimp only at e
      cases hf : (List.range i).find? fun j => exS (ss.getD j 0) a with
      | none =>
        have n1 := List.find?_eq_none.1 hf
        rw [hf] at e
        cases hf' : (List.range i).find? fun j => exS (ss.getD j 0) a' with
        | none =>
          have n2 := List.find?_eq_none.1 hf'
          intro j hj
          have h1 := n1 j (List.mem_range.2 hj)
          have h2 := n2 j (List.mem_range.2 hj)
          simp only [Bool.not_eq_true] at h1 h2
          rw [h1, h2]
        | some m =>
          rw [hf'] at e
          have := List.mem_range.1 (List.mem_of_find?_eq_some hf')
          have : i = m := e
          omega
      | some m =>
        rw [hf] at e
        have hm := List.mem_range.1 (List.mem_of_find?_eq_some hf)
        have p1 := List.find?_some hf
        cases hf' : (List.range i).find? fun j => exS (ss.getD j 0) a' with
        | none => rw [hf'] at e; have : m = i := e; omega
        | some m' =>
          rw [hf'] at e
          have : m = m' := e
          subst this
          have p2 := List.find?_some hf'
          have a1 := (exS_iff _ _).1 p1
          have a2 := (exS_iff _ _).1 p2
          intro j _
          exact exS_congr (fun v hv => by rw [a1 v hv, a2 v hv])
    unfold fpF
    rw [Bool.eq_iff_iff, List.any_eq_true, List.any_eq_true]
    have ex : ∀ (x : Nat → Bool) j, exS (ss.getD j 0) (jn x y) = exS (ss.getD j 0) x := fun x j => exS_congr (fun v hv => by unfold jn; rw [if_pos hv])
    have ep : ∀ (x : Nat → Bool) j, pF (ps.getD j 0) (jn x y) = pF (ps.getD j 0) y := fun x j => pF_congr (fun v hv => by unfold jn; have := pv_ge v; rw [if_neg (by omega)])
    constructor
    · rintro ⟨j, hj, h⟩
      rw [ex, ep] at h
      exact ⟨j, hj, by rw [ex, ep, ← key j (List.mem_range.1 hj)]; exact h⟩
    · rintro ⟨j, hj, h⟩
      rw [ex, ep] at h
      exact ⟨j, hj, by rw [ex, ep, key j (List.mem_range.1 hj)]; exact h⟩
theorem waF_fp (ss ps : List Nat) (t i : Nat) : FP 1 (waF ss ps t i) := by
  have g : ∀ a b : Nat → Bool, (∀ i, i < 16 → a (fvar 4 i false) = b (fvar 4 i false)) → waF ss ps t i a = waF ss ps t i b := fun a b g2 => by
    unfold waF
    congr 1
    funext j
    rw [pF_congr g2]
  refine ⟨fun a b _ g2 => g a b g2, fun _ => 0, fun _ => Nat.lt_succ_self 0, fun a a' _ y => g _ _ (fun v hv => ?_)⟩
  unfold jn
  have := pv_ge v
  rw [if_neg (by omega), if_neg (by omega)]
theorem soF_rd (ss : List Nat) (i : Nat) : Rd 0 12 (soF ss i) := fun a b h => by
  unfold soF
  congr 1
  funext j
  exact exS_congr (fun v hv => h v (by omega) hv)
theorem exS_rd (s : Nat) : Rd 0 12 (exS s) := fun a b h => exS_congr (fun v hv => h v (by omega) hv)

/-! ### the law -/
theorem under_law (ss ps : List Nat) (t i : Nat) (a : Nat → Bool) : unF (dnF ((dwL t).map Int.ofNat)) 12 (fpF ss ps i) a = waF ss ps t i a := by
  unfold unF fpF waF
  congr 1
  funext j
  rw [pF_congr (b := a) (fun v hv => by have := pv_ge v; rw [if_neg (by omega)])]
  congr 1
  rw [Bool.eq_iff_iff, exS_iff, decide_eq_true_eq]
  have e : ∀ v, v < 12 → dnF ((dwL t).map Int.ofNat) v = t.testBit v := fun v hv => by
    rw [dnF_map, Bool.eq_iff_iff, decide_eq_true_eq, dwL_mem]
    exact ⟨fun h => h.2, fun h => ⟨hv, h⟩⟩
  constructor
  · intro h
    refine dwL_ext (fun v hv => ?_)
    have := h v hv
    rw [if_pos hv, e v hv] at this
    exact this.symm
  · intro h v hv
    rw [if_pos hv, e v hv]
    have m1 := @dwL_mem (ss.getD j 0) v
    have m2 := @dwL_mem t v
    rw [h, m2] at m1
    rw [Bool.eq_iff_iff]
    exact ⟨fun g => (m1.1 ⟨hv, g⟩).2, fun g => (m1.2 ⟨hv, g⟩).2⟩

def pkp (q : Nat) : Pkt := ⟨0, 0, 0, 0, (q : Int)⟩
theorem pkp_ok {q : Nat} (h : q < 65536) : (pkp q).ok := ⟨by show 0 < 4294967296; omega, by show 0 < 4294967296; omega, by show (0 : Int) ≤ 0 ∧ (0 : Int) ≤ 255; omega, by show (0 : Int) ≤ 0 ∧ (0 : Int) ≤ 65535; omega, ⟨by show (0 : Int) ≤ (q : Int); omega, by show (q : Int) ≤ 65535; omega⟩⟩
theorem pF_enc (dn : Nat → Bool) {p q : Nat} (h : q < 65536) : pF p (asg (gL (encF dn (pkp q) pkz))) = decide (p = q) := by
  unfold pF
  rw [rgF_enc dn (pkp_ok h) pkz_ok (by omega) false p p]
  have e : (if false = true then pkz else pkp q).f 4 = q := by
    show u32 (q : Int) = q
    unfold u32; omega
  rw [e, Bool.eq_iff_iff, decide_eq_true_eq, decide_eq_true_eq]
  omega
theorem in_law (ss ps : List Nat) (t i : Nat) (dn : Nat → Bool) {q : Nat} (h : q < 65536) : waF ss ps t i (asg (gL (encF dn (pkp q) pkz))) = inP ss ps t q i := by
  unfold waF inP
  congr 1
  funext j
  rw [pF_enc dn h]

/-- All variables but the links. -/
def others : List Nat := (List.range 208).map fun i => 12 + i
theorem mem_others {v : Nat} : v ∈ others ↔ 12 ≤ v ∧ v < 220 := by
  unfold others
  rw [List.mem_map]
  constructor
  · rintro ⟨i, hi, rfl⟩
    have := List.mem_range.1 hi
    omega
  · intro h
    exact ⟨v - 12, List.mem_range.2 (by omega), by omega⟩
theorem some_law (ss ps : List Nat) (hp : ∀ j, j < ss.length → ps.getD j 0 < 65536) : exQ others (fpF ss ps ss.length) = soF ss ss.length := by
  funext a
  have no : ∀ c v, v < 12 → ovr others c a v = a v := fun c v hv => by
    unfold ovr; rw [if_neg (fun h => by have := mem_others.1 h; omega)]
  rw [Bool.eq_iff_iff, exQ_iff]
  unfold fpF soF
  rw [List.any_eq_true]
  constructor
  · rintro ⟨c, h⟩
    rw [List.any_eq_true] at h
    obtain ⟨j, hj, h⟩ := h
    refine ⟨j, hj, ?_⟩
    rw [exS_congr (no c)] at h
    exact (Bool.and_eq_true_iff.1 h).1
  · rintro ⟨j, hj, h⟩
    have hq := hp j (List.mem_range.1 hj)
    refine ⟨asg (gL (encF (fun _ => false) (pkp (ps.getD j 0)) pkz)), ?_⟩
    rw [List.any_eq_true]
    refine ⟨j, hj, ?_⟩
    rw [exS_congr (no _), h, pF_congr (b := asg (gL (encF (fun _ => false) (pkp (ps.getD j 0)) pkz))) (fun i hi => by
      unfold ovr; rw [if_pos (mem_others.2 ⟨pv_ge i, pv_lt hi⟩)]), pF_enc _ hq]
    simp

/-! ### the family of 'Some' -/
theorem Listed.proF {n m : Nat} {F : Bfn} {l : List Nat} (hF : Rd 0 n F) (hl : ∀ v, v < n → (v ∈ l ↔ m ≤ v)) (hm : m ≤ n) (M : Mgr) (hn : M.n = n) (hp : M.Plain) : Listed (M.ProF l F) (2 + (m + 1) * 2 ^ m) := by
  have E : Rd 0 m (exQ l F) := fun a b hab => by
    rw [Bool.eq_iff_iff, exQ_iff, exQ_iff]
    have e : ∀ c, F (ovr l c a) = F (ovr l c b) := fun c => hF _ _ (fun v _ hv => by
      unfold ovr
      by_cases h : v ∈ l
      · rw [if_pos h, if_pos h]
      · rw [if_neg h, if_neg h]
        have : v < m := by
          rcases Nat.lt_or_ge v m with x | x
          · exact x
          · exact (h ((hl v hv).2 x)).elim
        exact hab v (by omega) this)
    simp only [e]
  have li := (((Listed.one (fun _ => false)).or (Listed.one (fun _ => true))).or (Listed.code (A := Nat × (Nat → Bool)) (P := fun x => x.1 ≤ m) (Φ := fun G => ∃ x : Nat × (Nat → Bool), x.1 ≤ m ∧ (fun b => exQ l F (M.mix x.1 x.2 b)) = G) (N := (m + 1) * 2 ^ m)
    (fun x => fun b => exQ l F (M.mix x.1 x.2 b)) (fun x => x.1 * 2 ^ m + Mgr.code m x.2) (fun x hx => by
      have h1 := Mgr.code_lt m x.2
      have h2 : (x.1 + 1) * 2 ^ m ≤ (m + 1) * 2 ^ m := Nat.mul_le_mul_right _ (by omega)
      rw [Nat.add_mul] at h2
      omega) (fun x y _ _ e => by
      have h1 := Mgr.code_lt m x.2
      have h2 := Mgr.code_lt m y.2
      have hd : x.1 = y.1 := by
        rcases Nat.lt_trichotomy x.1 y.1 with h | h | h
        · have : (x.1 + 1) * 2 ^ m ≤ y.1 * 2 ^ m := Nat.mul_le_mul_right _ h
          rw [Nat.add_mul] at this; omega
        · exact h
        · have : (y.1 + 1) * 2 ^ m ≤ x.1 * 2 ^ m := Nat.mul_le_mul_right _ h
          rw [Nat.add_mul] at this; omega
      rw [hd] at e
      have ag := Mgr.code_inj m x.2 y.2 (by omega)
      funext b
      refine E _ _ (fun v _ hv => ?_)
      unfold Mgr.mix
      rw [hd, ag v hv]) (fun G h => h)))
  refine li.mono (fun G hG => ?_) (by omega)
  obtain ⟨d', a', d, a, rfl⟩ := hG
  by_cases hd' : d' ≤ m
  · -- a cofactor of the quantified function
    have e1 : ∀ y, exQ l (fun x => F (M.mix d' a' x)) y = exQ l F (M.mix d' a' y) := fun y => by
      rw [Bool.eq_iff_iff, exQ_iff, exQ_iff]
      have e : ∀ c, F (M.mix d' a' (ovr l c y)) = F (ovr l c (M.mix d' a' y)) := fun c => hF _ _ (fun v _ hv => by
        unfold Mgr.mix ovr
        simp only [hp v (by omega)]
        by_cases h : v < d'
        · have hl' : ¬ v ∈ l := fun hl' => by have := (hl v hv).1 hl'; omega
          simp only [h, hl', if_true, if_false]
        · simp only [h, if_false])
      simp only [e]
    refine .inr ⟨(min m (max d' d), M.mix d' a' a), by show min m _ ≤ m; omega, ?_⟩
    funext b
    rw [e1]
    refine E _ _ (fun v _ hv => ?_)
    unfold Mgr.mix
    simp only [hp v (by omega)]
    show (if v < min m (max d' d) then (if v < d' then a' v else a v) else b v) = if v < d' then a' v else if v < d then a v else b v
    by_cases h1 : v < d'
    · rw [if_pos (by omega), if_pos h1, if_pos h1]
    · by_cases h2 : v < d
      · rw [if_pos (by omega), if_neg h1, if_neg h1, if_pos h2]
      · rw [if_neg (by omega), if_neg h1, if_neg h2]
  · -- constant
    have c1 : ∀ y z, exQ l (fun x => F (M.mix d' a' x)) y = exQ l (fun x => F (M.mix d' a' x)) z := fun y z => by
      rw [Bool.eq_iff_iff, exQ_iff, exQ_iff]
      have e : ∀ c, F (M.mix d' a' (ovr l c y)) = F (M.mix d' a' (ovr l c z)) := fun c => hF _ _ (fun v _ hv => by
        unfold Mgr.mix ovr
        simp only [hp v (by omega)]
        by_cases h : v < d'
        · simp only [h, if_true]
        · have hl' : v ∈ l := (hl v hv).2 (by omega)
          simp only [h, hl', if_true, if_false])
      simp only [e]
    left
    cases hc : exQ l (fun x => F (M.mix d' a' x)) (fun _ => false) with
    | false => exact .inl (funext fun b => by rw [c1 _ (fun _ => false), hc])
    | true => exact .inr (funext fun b => by rw [c1 _ (fun _ => false), hc])

end Go.Proofs.YtohinonkfhkclaaDoor
