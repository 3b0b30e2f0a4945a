/-
  The arguments of the laws: what they read as, and that they read behind the call as before.
-/
import Derived.Test.YtngbodmooddjbaaQ
import Derived.Test.YtngbodmooddjbaaTab
import Derived.Test.YtngbodmooddjbaaRep
import Derived.Deep.Slices
import Derived.Deep.Fields
namespace Go.Proofs.Ytngbodmooddjbaa

/-- A step: Op, A, B, C. -/
abbrev Stp := Int × Int × Int × Int
abbrev BF := (Nat → Bool) → Bool

/-- The last bit of C. -/
def lastBit (c : Int) : Bool := bits BinOp.and IntKind.i64 c 1 == 1

def opM (n : Nat) (M : Mgr) (fs : List Int) (s : Stp) : Mgr × Int :=
  let fa := fs.getD (pick s.2.1 fs.length) 0
  let fb := fs.getD (pick s.2.2.1 fs.length) 0
  let fc := fs.getD (pick s.2.2.2 fs.length) 0
  let o := pick s.1 6
  let N := (M.notM fa).1
  if o = 1 then N.andM fa fb else if o = 2 then N.orM fa fb else if o = 3 then N.xorM fa fb else if o = 4 then N.iteM fa fb fc
  else if o = 5 then N.restrictM fa (pick s.2.2.1 n : Int) (lastBit s.2.2.2) else M.notM fa

def opF (n : Nat) (Fs : List BF) (s : Stp) : BF :=
  let fa := Fs.getD (pick s.2.1 Fs.length) (fun _ => false)
  let fb := Fs.getD (pick s.2.2.1 Fs.length) (fun _ => false)
  let fc := Fs.getD (pick s.2.2.2 Fs.length) (fun _ => false)
  let o := pick s.1 6
  if o = 1 then fun a => fa a && fb a else if o = 2 then fun a => fa a || fb a else if o = 3 then fun a => fa a ^^ fb a else if o = 4 then fun a => if fa a then fb a else fc a
  else if o = 5 then fun a => fa (Mgr.upd a (pick s.2.2.1 n) (lastBit s.2.2.2)) else fun a => !fa a

def stepM (n : Nat) (S : Mgr × List Int) (s : Stp) : Mgr × List Int := ((opM n S.1 S.2 s).1, S.2 ++ [(opM n S.1 S.2 s).2])
def stepF (n : Nat) (Fs : List BF) (s : Stp) : List BF := Fs ++ [opF n Fs s]

def varsM (M : Mgr) : Nat → Mgr × List Int
  | 0 => (M, [0, 1])
  | k + 1 => ((varsM M k).1.varM (k : Int)).1 |> fun X => (X, (varsM M k).2 ++ [((varsM M k).1.varM (k : Int)).2])
def varsF : Nat → List BF
  | 0 => [fun _ => false, fun _ => true]
  | k + 1 => varsF k ++ [fun a => a k]

def runM (M : Mgr) (n : Nat) (l : List Stp) : Mgr × List Int := l.foldl (stepM n) (varsM M n)
def runF (n : Nat) (l : List Stp) : List BF := l.foldl (stepF n) (varsF n)

/-- The Refs denote the functions. -/
structure RP (n c : Nat) (M : Mgr) (fs : List Int) (Fs : List BF) : Prop where
  wf : M.WF
  nn : M.n = n
  len : Fs.length = fs.length
  pos : 2 ≤ fs.length
  sem : ∀ (i : Nat) (f : Int) (F : BF), fs[i]? = some f → Fs[i]? = some F → M.valid f = true ∧ (∀ a, M.sem f.toNat a = F a) ∧ Upto n F
  cost : M.nodes.length ≤ c

theorem Upto.reads {n : Nat} {F : BF} (h : Upto n F) {M : Mgr} (hn : M.n = n) : M.Reads 0 F := fun a b hab => h a b (fun v hv => hab v (by omega) (by omega))

/-- What holds of an entry. -/
theorem RP.at {n c : Nat} {M : Mgr} {fs : List Int} {Fs : List BF} (h : RP n c M fs Fs) {i : Nat} (hi : i < fs.length) :
    M.valid (fs.getD i 0) = true ∧ (∀ a, M.sem (fs.getD i 0).toNat a = Fs.getD i (fun _ => false) a) ∧ Upto n (Fs.getD i (fun _ => false)) := by
  have hi2 : i < Fs.length := by rw [h.len]; exact hi
  have := h.sem i fs[i] Fs[i] (by simp [hi]) (by simp [hi2])
  simpa [hi, hi2] using this

/-- One entry more. -/
theorem RP.push {n c k : Nat} {M M' : Mgr} {fs : List Int} {Fs : List BF} {F : BF} {r : Int} (h : RP n c M fs Fs) (o : Mgr.OpS M F k M' r) (hF : Upto n F) (c' : Nat) (hc : c + k ≤ c') : RP n c' M' (fs ++ [r]) (Fs ++ [F]) := by
  refine ⟨o.wf, by rw [o.n, h.nn], by simp [h.len], by have := h.pos; simp; omega, fun i f G hf hG => ?_, by have := o.len; have := h.cost; omega⟩
  rw [List.getElem?_append] at hf hG
  split at hf
  · rename_i hi
    rw [if_pos (by rw [h.len]; exact hi)] at hG
    obtain ⟨a1, a2, a3⟩ := h.sem i f G hf hG
    obtain ⟨b1, b2⟩ := o.old f a1
    exact ⟨b1, fun a => by rw [b2, a2], a3⟩
  · rename_i hi
    rw [if_neg (by rw [h.len]; exact hi)] at hG
    have hf0 : i - fs.length = 0 := by
      rcases Nat.eq_zero_or_pos (i - fs.length) with e | e
      · exact e
      · rw [List.getElem?_eq_none (by simp; omega)] at hf; cases hf
    rw [hf0] at hf
    rw [h.len, hf0] at hG
    simp at hf hG
    subst hf; subst hG
    exact ⟨o.ok, o.sem, hF⟩

/-- Only the manager has changed. -/
theorem RP.grow {n c k : Nat} {M M' : Mgr} {fs : List Int} {Fs : List BF} {F : BF} {r : Int} (h : RP n c M fs Fs) (o : Mgr.OpS M F k M' r) (c' : Nat) (hc : c + k ≤ c') : RP n c' M' fs Fs := by
  refine ⟨o.wf, by rw [o.n, h.nn], h.len, h.pos, fun i f G hf hG => ?_, by have := o.len; have := h.cost; omega⟩
  obtain ⟨a1, a2, a3⟩ := h.sem i f G hf hG
  obtain ⟨b1, b2⟩ := o.old f a1
  exact ⟨b1, fun a => by rw [b2, a2], a3⟩

theorem n_cost {n : Nat} (hn : n ≤ 6) : n * 2 ^ n ≤ 384 := by
  have := pow_le_64 hn
  have : n * 2 ^ n ≤ 6 * 64 := Nat.mul_le_mul hn this
  omega

structure OpSpec (n c : Nat) (M : Mgr) (fs : List Int) (Fs : List BF) (s : Stp) : Prop where
  next : RP n (c + 1152) (opM n M fs s).1 (fs ++ [(opM n M fs s).2]) (Fs ++ [opF n Fs s])
  up : Upto n (opF n Fs s)
  old : ∀ f, M.valid f = true → (opM n M fs s).1.valid f = true ∧ ∀ a, (opM n M fs s).1.sem f.toNat a = M.sem f.toNat a

/-- The first operation of a step. -/
theorem not_ops {n c : Nat} {M : Mgr} {fs : List Int} {Fs : List BF} (hn : n ≤ 6) (h : RP n c M fs Fs) {i : Nat} (hi : i < fs.length) :
    Mgr.OpS M (fun a => !(Fs.getD i (fun _ => false)) a) 384 (M.notM (fs.getD i 0)).1 (M.notM (fs.getD i 0)).2 ∧ Upto n (fun a => !(Fs.getD i (fun _ => false)) a) := by
  obtain ⟨va, sa, ua⟩ := h.at hi
  have u : Upto n (fun a => !(Fs.getD i (fun _ => false)) a) := fun a b hab => by show (!_) = (!_); rw [ua a b hab]
  have o := Mgr.notM_ops h.wf va (F := fun a => !(Fs.getD i (fun _ => false)) a) (fun a => by rw [sa]) (Mgr.states_any (u.reads h.nn))
  rw [h.nn] at o
  exact ⟨⟨o.wf, o.order, o.level, o.ok, o.sem, o.old, Nat.le_trans o.len (by have := n_cost hn; omega)⟩, u⟩

theorem step_spec {n c : Nat} {M : Mgr} {fs : List Int} {Fs : List BF} (hn : n ≤ 6) (h1 : 1 ≤ n) (h : RP n c M fs Fs) (s : Stp) : OpSpec n c M fs Fs s := by
  have hp := h.pos
  have la := pick_lt s.2.1 (n := fs.length) (by omega)
  have lb := pick_lt s.2.2.1 (n := fs.length) (by omega)
  have lc := pick_lt s.2.2.2 (n := fs.length) (by omega)
  obtain ⟨on, un⟩ := not_ops hn h la
  have hN := h.grow on (c + 384) (Nat.le_refl _)
  obtain ⟨va, sa, ua⟩ := hN.at la
  obtain ⟨vb, sb, ub⟩ := hN.at lb
  obtain ⟨vc, sc, uc⟩ := hN.at lc
  have nc := n_cost hn
  have fin : ∀ {F : BF} {k : Nat} {R : Mgr × Int}, Mgr.OpS (M.notM (fs.getD (pick s.2.1 fs.length) 0)).1 F k R.1 R.2 → k ≤ 768 → Upto n F → opM n M fs s = R → opF n Fs s = F → OpSpec n c M fs Fs s := fun {F k R} o hk hF e1 e2 => by
    refine ⟨?_, ?_, ?_⟩
    · rw [e1, e2]; exact hN.push o hF _ (by omega)
    · rw [e2]; exact hF
    · rw [e1]
      intro f hf
      obtain ⟨a, b⟩ := on.old f hf
      obtain ⟨c, d⟩ := o.old f a
      exact ⟨c, fun x => (d x).trans (b x)⟩
  unfold opM opF at fin
  rw [h.len] at fin
  by_cases h1' : pick s.1 6 = 1
  · have u : Upto n (fun a => (Fs.getD (pick s.2.1 fs.length) (fun _ => false)) a && (Fs.getD (pick s.2.2.1 fs.length) (fun _ => false)) a) := fun a b hab => by show (_ && _) = (_ && _); rw [ua a b hab, ub a b hab]
    have o := Mgr.andM_ops hN.wf va vb (F := _) (fun a => by rw [sa, sb]) (Mgr.states_any (u.reads hN.nn))
    rw [hN.nn] at o
    exact fin o (by omega) u (by simp only [h1', if_true]) (by simp only [h1', if_true])
  · by_cases h2 : pick s.1 6 = 2
    · have u : Upto n (fun a => (Fs.getD (pick s.2.1 fs.length) (fun _ => false)) a || (Fs.getD (pick s.2.2.1 fs.length) (fun _ => false)) a) := fun a b hab => by show (_ || _) = (_ || _); rw [ua a b hab, ub a b hab]
      have o := Mgr.orM_ops hN.wf va vb (F := _) (fun a => by rw [sa, sb]) (Mgr.states_any (u.reads hN.nn))
      rw [hN.nn] at o
      exact fin o (by omega) u (by rw [if_neg h1', if_pos h2]) (by rw [if_neg h1', if_pos h2])
    · by_cases h3 : pick s.1 6 = 3
      · have u : Upto n (fun a => (Fs.getD (pick s.2.1 fs.length) (fun _ => false)) a ^^ (Fs.getD (pick s.2.2.1 fs.length) (fun _ => false)) a) := fun a b hab => by show (_ ^^ _) = (_ ^^ _); rw [ua a b hab, ub a b hab]
        have ut : Upto n (fun a => !(M.notM (fs.getD (pick s.2.1 fs.length) 0)).1.sem (fs.getD (pick s.2.2.1 fs.length) 0).toNat a) := fun a b hab => by show (!_) = (!_); rw [sb, sb, ub a b hab]
        have o := Mgr.xorM_ops hN.wf va vb (F := _) (fun a => by rw [sa, sb]) (Mgr.states_any (u.reads hN.nn)) (Mgr.states_any (ut.reads hN.nn))
        rw [hN.nn] at o
        exact fin o (by omega) u (by rw [if_neg h1', if_neg h2, if_pos h3]) (by rw [if_neg h1', if_neg h2, if_pos h3])
      · by_cases h4 : pick s.1 6 = 4
        · have u : Upto n (fun a => if (Fs.getD (pick s.2.1 fs.length) (fun _ => false)) a then (Fs.getD (pick s.2.2.1 fs.length) (fun _ => false)) a else (Fs.getD (pick s.2.2.2 fs.length) (fun _ => false)) a) := fun a b hab => by
            show (if _ then _ else _) = (if _ then _ else _); rw [ua a b hab, ub a b hab, uc a b hab]
          have o := Mgr.iteM_ops hN.wf va vb vc (F := _) (fun a => by rw [sa, sb, sc]) (Mgr.states_any (u.reads hN.nn))
          rw [hN.nn] at o
          exact fin o (by omega) u (by rw [if_neg h1', if_neg h2, if_neg h3, if_pos h4]) (by rw [if_neg h1', if_neg h2, if_neg h3, if_pos h4])
        · by_cases h5 : pick s.1 6 = 5
          · have hv := pick_lt s.2.2.1 (n := n) (by omega)
            have u : Upto n (fun a => (Fs.getD (pick s.2.1 fs.length) (fun _ => false)) (Mgr.upd a (pick s.2.2.1 n) (lastBit s.2.2.2))) := fun a b hab => ua _ _ (fun v hv => by
              unfold Mgr.upd; split
              · rfl
              · exact hab v hv)
            have o := Mgr.restrictM_ops hN.wf va (v := pick s.2.2.1 n) (by rw [hN.nn]; exact hv) (lastBit s.2.2.2) (F := _) (fun a => by rw [sa]) (Mgr.states_any (u.reads hN.nn))
            rw [hN.nn] at o
            exact fin o (by omega) u (by rw [if_neg h1', if_neg h2, if_neg h3, if_neg h4, if_pos h5]) (by rw [if_neg h1', if_neg h2, if_neg h3, if_neg h4, if_pos h5])
          · refine ⟨?_, ?_, ?_⟩
            · unfold opM opF
              rw [h.len]
              simp only [h1', h2, h3, h4, h5, if_false]
              exact h.push on un _ (by omega)
            · unfold opF
              rw [h.len]
              simp only [h1', h2, h3, h4, h5, if_false]
              exact un
            · unfold opM
              simp only [h1', h2, h3, h4, h5, if_false]
              exact on.old

theorem vars_spec {n : Nat} {M : Mgr} (wf : M.WF) (hn : M.n = n) (h6 : n ≤ 6) {c : Nat} (hc : M.nodes.length ≤ c) : ∀ k, k ≤ n → RP n (c + k) (varsM M k).1 (varsM M k).2 (varsF k)
  | 0, _ => by
    refine ⟨wf, hn, rfl, by simp [varsM], fun i f F hf hF => ?_, by simpa [varsM] using hc⟩
    match i, hf, hF with
    | 0, hf, hF =>
      simp [varsM, varsF] at hf hF
      subst hf; subst hF
      exact ⟨Mgr.valid_zero wf, fun a => Mgr.sem_zero M a, fun _ _ _ => rfl⟩
    | 1, hf, hF =>
      simp [varsM, varsF] at hf hF
      subst hf; subst hF
      exact ⟨Mgr.valid_one wf, fun a => Mgr.sem_one M a, fun _ _ _ => rfl⟩
    | i + 2, hf, _ => simp [varsM] at hf
  | k + 1, hk => by
    have ih := vars_spec wf hn h6 hc k (by omega)
    have o := Mgr.varM_ops ih.wf (v := k) (by rw [ih.nn]; omega)
    exact ih.push o (fun a b hab => hab k (by omega)) _ (by omega)

theorem run_spec {n : Nat} {M : Mgr} (wf : M.WF) (hn : M.n = n) (h6 : n ≤ 6) (h1 : 1 ≤ n) {c : Nat} (hc : M.nodes.length ≤ c) (l : List Stp) : ∀ k, k ≤ l.length → RP n (c + n + k * 1152) (runM M n (l.take k)).1 (runM M n (l.take k)).2 (runF n (l.take k))
  | 0, _ => by simpa [runM, runF] using vars_spec wf hn h6 hc n (Nat.le_refl _)
  | k + 1, hk => by
    have ih := run_spec wf hn h6 h1 hc l k (by omega)
    have := (step_spec h6 h1 ih (l[k]'(by omega))).next
    rw [List.take_succ_eq_append_getElem (by omega)]
    unfold runM runF at *
    rw [List.foldl_append, List.foldl_append]
    simp only [List.foldl_cons, List.foldl_nil, stepM, stepF]
    rw [show c + n + (k + 1) * 1152 = c + n + k * 1152 + 1152 by omega]
    exact this

/-- What was there denotes what it denoted. -/
theorem vars_old {n : Nat} {M : Mgr} (wf : M.WF) (hn : M.n = n) (h6 : n ≤ 6) {c : Nat} (hc : M.nodes.length ≤ c) : ∀ k, k ≤ n → ∀ f, M.valid f = true → (varsM M k).1.valid f = true ∧ ∀ a, (varsM M k).1.sem f.toNat a = M.sem f.toNat a
  | 0, _, _, hf => ⟨hf, fun _ => rfl⟩
  | k + 1, hk, f, hf => by
    have ih := vars_spec wf hn h6 hc k (by omega)
    have o := Mgr.varM_ops ih.wf (v := k) (by rw [ih.nn]; omega)
    obtain ⟨a, b⟩ := vars_old wf hn h6 hc k (by omega) f hf
    obtain ⟨c, d⟩ := o.old f a
    exact ⟨c, fun x => (d x).trans (b x)⟩
theorem run_old {n : Nat} {M : Mgr} (wf : M.WF) (hn : M.n = n) (h6 : n ≤ 6) (h1 : 1 ≤ n) {c : Nat} (hc : M.nodes.length ≤ c) (l : List Stp) : ∀ k, k ≤ l.length → ∀ f, M.valid f = true → (runM M n (l.take k)).1.valid f = true ∧ ∀ a, (runM M n (l.take k)).1.sem f.toNat a = M.sem f.toNat a
  | 0, _, f, hf => by
    have := vars_old wf hn h6 hc n (Nat.le_refl _) f hf
    simpa [runM] using this
  | k + 1, hk, f, hf => by
    have ih := run_spec wf hn h6 h1 hc l k (by omega)
    obtain ⟨a, b⟩ := run_old wf hn h6 h1 hc l k (by omega) f hf
    obtain ⟨c, d⟩ := (step_spec h6 h1 ih (l[k]'(by omega))).old f a
    have e : (runM M n (l.take (k + 1))).1 = (opM n (runM M n (l.take k)).1 (runM M n (l.take k)).2 (l[k]'(by omega))).1 := by
      rw [List.take_succ_eq_append_getElem (by omega)]
      unfold runM
      rw [List.foldl_append]
      rfl
    rw [e]
    exact ⟨c, fun x => (d x).trans (b x)⟩
/-- A second run in a manager that holds the functions returns the same Refs. -/
theorem run_again {n c : Nat} {M : Mgr} {fs : List Int} (h6 : n ≤ 6) (h1 : 1 ≤ n) (l : List Stp) (h : RP n c M fs (runF n l)) : (runM M n l).2 = fs := by
  have r := run_spec h.wf h.nn h6 h1 h.cost l l.length (Nat.le_refl _)
  have o := run_old h.wf h.nn h6 h1 h.cost l l.length (Nat.le_refl _)
  rw [List.take_length] at r o
  refine List.ext_getElem (by rw [← r.len, ← h.len]) fun i hi hj => ?_
  have hk : i < (runF n l).length := by rw [h.len]; exact hj
  obtain ⟨v1, s1, _⟩ := r.sem i _ _ (List.getElem?_eq_getElem hi) (List.getElem?_eq_getElem hk)
  obtain ⟨v2, s2, _⟩ := h.sem i _ _ (List.getElem?_eq_getElem hj) (List.getElem?_eq_getElem hk)
  obtain ⟨v3, s3⟩ := o _ v2
  exact Mgr.valid_canon r.wf v1 v3 (fun a => by rw [s1, s3, s2])

/-! ### the order of the variables is kept -/
namespace Mgr
theorem put_order (M : Mgr) (v lo hi : Nat) : (M.put v lo hi).1.order = M.order ∧ (M.put v lo hi).1.level = M.level := by
  unfold put
  split
  · exact ⟨rfl, rfl⟩
  · split
    · exact ⟨rfl, rfl⟩
    · split <;> exact ⟨rfl, rfl⟩
theorem build_order : ∀ (k : Nat) (M : Mgr) (F : BF), (build k M F).1.order = M.order ∧ (build k M F).1.level = M.level
  | 0, _, _ => ⟨rfl, rfl⟩
  | k + 1, M, F => by
    unfold build
    simp only
    obtain ⟨a1, a2⟩ := put_order (build k (build k M fun a => F (upd a (M.ord (M.n - (k + 1))) false)).1 fun a => F (upd a (M.ord (M.n - (k + 1))) true)).1 (M.ord (M.n - (k + 1))) (build k M fun a => F (upd a (M.ord (M.n - (k + 1))) false)).2 (build k (build k M fun a => F (upd a (M.ord (M.n - (k + 1))) false)).1 fun a => F (upd a (M.ord (M.n - (k + 1))) true)).2
    obtain ⟨b1, b2⟩ := build_order k (build k M fun a => F (upd a (M.ord (M.n - (k + 1))) false)).1 (fun a => F (upd a (M.ord (M.n - (k + 1))) true))
    obtain ⟨c1, c2⟩ := build_order k M (fun a => F (upd a (M.ord (M.n - (k + 1))) false))
    exact ⟨a1.trans (b1.trans c1), a2.trans (b2.trans c2)⟩
theorem show_order (M : Mgr) (f : Nat) : (M.show f).order = M.order ∧ (M.show f).level = M.level := ⟨rfl, rfl⟩
theorem iteM_order (M : Mgr) (f g h : Int) : (M.iteM f g h).1.order = M.order := by
  unfold iteM; split
  · exact (build_order _ _ _).1
  · rfl
theorem xorM_order (M : Mgr) (f g : Int) : (M.xorM f g).1.order = M.order := by
  unfold xorM; split
  · exact (build_order _ _ _).1.trans (build_order _ _ _).1
  · rfl
theorem varM_order (M : Mgr) (v : Int) : (M.varM v).1.order = M.order := by
  unfold varM; split
  · exact (put_order _ _ _ _).1
  · rfl
theorem restrictM_order (M : Mgr) (f v : Int) (b : Bool) : (M.restrictM f v b).1.order = M.order := by
  unfold restrictM; split
  · exact (build_order _ _ _).1
  · rfl
end Mgr
theorem opM_order (n : Nat) (M : Mgr) (fs : List Int) (s : Stp) : (opM n M fs s).1.order = M.order := by
  have hN : ∀ f, (M.notM f).1.order = M.order := fun f => M.iteM_order f 0 1
  unfold opM
  simp only
  repeat' split
  · exact (Mgr.iteM_order _ _ _ _).trans (hN _)
  · exact (Mgr.iteM_order _ _ _ _).trans (hN _)
  · exact (Mgr.xorM_order _ _ _).trans (hN _)
  · exact (Mgr.iteM_order _ _ _ _).trans (hN _)
  · exact (Mgr.restrictM_order _ _ _ _).trans (hN _)
  · exact hN _
theorem varsM_order (M : Mgr) : ∀ k, (varsM M k).1.order = M.order
  | 0 => rfl
  | k + 1 => (Mgr.varM_order _ _).trans (varsM_order M k)
theorem runM_order (M : Mgr) (n : Nat) (l : List Stp) : (runM M n l).1.order = M.order := by
  have : ∀ (l : List Stp) (S : Mgr × List Int), (l.foldl (stepM n) S).1.order = S.1.order := by
    intro l
    induction l with
    | nil => intro S; rfl
    | cons s l ih => intro S; rw [List.foldl_cons, ih]; exact opM_order n S.1 S.2 s
  exact (this l _).trans (varsM_order M n)

end Go.Proofs.Ytngbodmooddjbaa

namespace Go.Proofs.Ytngbodmooddjbaa
open Go.RowKit

/-- No block of the value is the manager's. -/
def Off (L : Lay) (p : Nat) (v : Value) : Prop := ∀ k, v.ownBlock = some k → ¬ L.at p k

/-- The state of 'Run' that began at w with the layout L0. -/
structure RJ (w : World) (p n : Nat) (L0 : Lay) (wr : World) (M : Mgr) (L : Lay) (fv tv : Value) (fs : List Int) (Fs : List BF) (tvs : List Value) : Prop where
  sd : Sd w p L0 wr M L
  frow : wr.ownsRow w.heap.size 27 1 fv fs.length (fs.map intV)
  trow : wr.ownsRow w.heap.size 45 1 tv tvs.length tvs
  fo : Off L p fv
  tof : Off L p tv
  tlen : tvs.length = fs.length
  flen : Fs.length = fs.length
  tabs : ∀ (i : Nat) (x : Value) (F : BF), tvs[i]? = some x → Fs[i]? = some F → Tb w.heap.size wr x (tab n F) ∧ Off L p x

theorem ownsRow_mono {w : World} {B B' e size n : Nat} {v : Value} {xs : List Value} (h : w.ownsRow B e size v n xs) (hb : B' ≤ B) : w.ownsRow B' e size v n xs := by
  refine ⟨h.1, ?_⟩
  rcases h.2 with x | ⟨g, cap, cur, hv, hg, r⟩
  · exact .inl x
  · exact .inr ⟨g, cap, cur, hv, Nat.le_trans hb hg, r⟩

theorem Off.step {p : Nat} {L L' : Lay} {w : World} {v : Value} (h : Off L p v) (f : Fresh (L.at p) (L'.at p) w) (hlt : ∀ k, v.ownBlock = some k → k < w.heap.size) : Off L' p v := fun k hk hx => by
  rcases f k hx with h1 | h1
  · exact h k hk h1
  · have := hlt k hk; omega

section
variable {w : World} {p n : Nat} {L0 : Lay} {wr w' : World} {M M' : Mgr} {L : Lay} {fv tv : Value} {fs : List Int} {Fs : List BF} {tvs : List Value}

theorem RJ.no (j : RJ w p n L0 wr M L fv tv fs Fs tvs) (k : Kp No wr w') : RJ w p n L0 w' M L fv tv fs Fs tvs :=
  ⟨j.sd.no k, ownsRow_kp j.frow k (fun _ _ x => x), ownsRow_kp j.trow k (fun _ _ x => x), j.fo, j.tof, j.tlen, j.flen, fun i x F h1 h2 => ⟨(j.tabs i x F h1 h2).1.no k, (j.tabs i x F h1 h2).2⟩⟩

/-- The manager alone is changed. -/
theorem RJ.ret {v : Value} {e : Ending} (j : RJ w p n L0 wr M L fv tv fs Fs tvs) (h : Ret p L wr M' v e w') : e = .returned v ∧ ∃ L', RJ w p n L0 w' M' L' fv tv fs Fs tvs ∧ Kp (L.at p) wr w' ∧ Fresh (L.at p) (L'.at p) wr := by
  obtain ⟨he, L', sd'⟩ := j.sd.step h
  obtain ⟨L1, _, r1, k1, f1⟩ := h
  refine ⟨he, L1, ⟨⟨r1, j.sd.kp.trans j.sd.fr k1, fun x hx => ?_⟩, ownsRow_kp j.frow k1 j.fo, ownsRow_kp j.trow k1 j.tof, j.fo.step f1 (fun k hk => (j.frow.lt k hk).2), j.tof.step f1 (fun k hk => (j.trow.lt k hk).2), j.tlen, j.flen,
    fun i x F h1 h2 => ⟨(j.tabs i x F h1 h2).1.kp k1 (j.tabs i x F h1 h2).2, (j.tabs i x F h1 h2).2.step f1 (fun k hk => ((j.tabs i x F h1 h2).1.lt k hk).2)⟩⟩, k1, f1⟩
  rcases f1 x hx with h1 | h1
  · exact j.sd.fr x h1
  · right; have := j.sd.kp.size; omega

/-- The new table is none of the manager's. -/
theorem off_new {x : Value} {t : List Bool} (R : Rep wr p M L) (h : Tb wr.heap.size w' x t) : Off L p x := fun k hk hx => by
  have h1 := (h.lt k hk).1
  have := R.lt k hx
  omega

/-- An element is appended to the Refs. -/
theorem RJ.pushF {A : World} {g cap : Nat} {r : Int} (j : RJ w p n L0 wr M L fv tv fs Fs tvs) (kA : Kp No wr A) (hs : A.heap.size = wr.heap.size + 1)
    (hown : w'.ownsRow w.heap.size 27 1 (.slice (some ⟨g, 0, none⟩) (fs.length + 1) cap) (fs.length + 1) (fs.map intV ++ [.int .i64 r])) (hgrow : A.grownBy w' fv.ownBlock) (hat : fv.ownBlock = some g ∨ g = A.heap.size) :
    Sd w p L0 w' M L ∧ w'.ownsRow w.heap.size 27 1 (.slice (some ⟨g, 0, none⟩) (fs.length + 1) cap) (fs ++ [r]).length ((fs ++ [r]).map intV) ∧ w'.ownsRow w.heap.size 45 1 tv tvs.length tvs ∧
    Off L p (.slice (some ⟨g, 0, none⟩) (fs.length + 1) cap) ∧ (∀ (i : Nat) (x : Value) (F : BF), tvs[i]? = some x → Fs[i]? = some F → Tb w.heap.size w' x (Go.Proofs.Ytngbodmooddjbaa.tab n F) ∧ Off L p x) ∧
    (∀ x t, Tb w.heap.size wr x t → Tb w.heap.size w' x t) ∧ Kp (fun k => fv.ownBlock = some k) wr w' := by
  have kg : Kp (fun k => fv.ownBlock = some k) wr w' := grown_no kA hgrow
  have zero : ∀ {e s u n x B}, wr.ownsRow B e s u n x → wr.ownsRow 0 e s u n x := fun h => ownsRow_mono h (Nat.zero_le _)
  have tb : ∀ x t, Tb w.heap.size wr x t → Tb w.heap.size w' x t := fun x t h => h.kp kg (fun k e y => row_ne (zero h) (zero j.frow) (by decide) e y)
  refine ⟨⟨j.sd.rep.kp kg (fun k e => j.fo k e), j.sd.kp.trans (A' := fun k => fv.ownBlock = some k) (fun k e => .inr (j.frow.lt k e).1) kg, j.sd.fr⟩, ?_, ownsRow_kp j.trow kg (fun k e y => row_ne (zero j.trow) (zero j.frow) (by decide) e y), ?_, fun i x F h1 h2 => ⟨tb _ _ (j.tabs i x F h1 h2).1, (j.tabs i x F h1 h2).2⟩, tb, kg⟩
  · simpa [intV] using hown
  · intro k hk hx
    simp [Value.ownBlock] at hk
    subst hk
    rcases hat with h | h
    · exact j.fo _ h hx
    · have := j.sd.rep.lt _ hx; omega

/-- And to the tables. -/
theorem RJ.pushT {A : World} {g cap : Nat} {fv' x : Value} {r : Int} {F : BF} (sd : Sd w p L0 wr M L) (frow : wr.ownsRow w.heap.size 27 1 fv' (fs ++ [r]).length ((fs ++ [r]).map intV)) (trow : wr.ownsRow w.heap.size 45 1 tv tvs.length tvs)
    (fo : Off L p fv') (tof : Off L p tv) (tlen : tvs.length = fs.length) (flen : Fs.length = fs.length)
    (tabs : ∀ (i : Nat) (x : Value) (F : BF), tvs[i]? = some x → Fs[i]? = some F → Tb w.heap.size wr x (Go.Proofs.Ytngbodmooddjbaa.tab n F) ∧ Off L p x) (hx : Tb w.heap.size wr x (Go.Proofs.Ytngbodmooddjbaa.tab n F)) (ho : Off L p x)
    (kA : Kp No wr A) (hs : A.heap.size = wr.heap.size + 1)
    (hown : w'.ownsRow w.heap.size 45 1 (.slice (some ⟨g, 0, none⟩) (tvs.length + 1) cap) (tvs.length + 1) (tvs ++ [x])) (hgrow : A.grownBy w' tv.ownBlock) (hat : tv.ownBlock = some g ∨ g = A.heap.size) :
    RJ w p n L0 w' M L fv' (.slice (some ⟨g, 0, none⟩) (tvs.length + 1) cap) (fs ++ [r]) (Fs ++ [F]) (tvs ++ [x]) := by
  have kg : Kp (fun k => tv.ownBlock = some k) wr w' := grown_no kA hgrow
  have zero : ∀ {e s u n x B}, wr.ownsRow B e s u n x → wr.ownsRow 0 e s u n x := fun h => ownsRow_mono h (Nat.zero_le _)
  have tb : ∀ x t, Tb w.heap.size wr x t → Tb w.heap.size w' x t := fun x t h => h.kp kg (fun k e y => row_ne (zero h) (zero trow) (by decide) e y)
  refine ⟨⟨sd.rep.kp kg (fun k e => tof k e), sd.kp.trans (A' := fun k => tv.ownBlock = some k) (fun k e => .inr (trow.lt k e).1) kg, sd.fr⟩, ownsRow_kp frow kg (fun k e y => row_ne (zero frow) (zero trow) (by decide) e y), ?_, fo, ?_, by simp [tlen], by simp [flen], fun i y G h1 h2 => ?_⟩
  · simpa using hown
  · intro k hk hy
    simp [Value.ownBlock] at hk
    subst hk
    rcases hat with h | h
    · exact tof _ h hy
    · have := sd.rep.lt _ hy; omega
  · rw [List.getElem?_append] at h1 h2
    split at h1
    · rename_i hi
      rw [if_pos (by omega)] at h2
      exact ⟨tb _ _ (tabs i y G h1 h2).1, (tabs i y G h1 h2).2⟩
    · rename_i hi
      rw [if_neg (by omega)] at h2
      have h0 : i - tvs.length = 0 := by
        rcases Nat.eq_zero_or_pos (i - tvs.length) with e | e
        · exact e
        · rw [List.getElem?_eq_none (by simp; omega)] at h1; cases h1
      rw [h0] at h1
      rw [show i - Fs.length = 0 by omega] at h2
      simp at h1 h2
      subst h1; subst h2
      exact ⟨tb _ _ hx, ho⟩
end

/-- The steps in memory: a slice of structs of four numbers. -/
def StepsAt (w : World) (v : Value) (l : List Stp) : Prop :=
  ∃ ao c, v = .slice ao l.length c ∧ (l = [] ∨ ∃ g o, ao = some ⟨g, o, none⟩ ∧ g < w.heap.size ∧ ∀ (i : Nat) (s : Stp), l[i]? = some s →
    w.cell? ⟨g, o + i * 4, none⟩ = some (.int .i64 s.1) ∧ w.cell? ⟨g, o + i * 4 + 1, none⟩ = some (.int .i64 s.2.1) ∧ w.cell? ⟨g, o + i * 4 + 2, none⟩ = some (.int .i64 s.2.2.1) ∧ w.cell? ⟨g, o + i * 4 + 3, none⟩ = some (.int .i64 s.2.2.2))

theorem StepsAt.kp {A : Nat → Prop} {w w' : World} {v : Value} {l : List Stp} (h : StepsAt w v l) (k : Kp A w w') (hA : l ≠ [] → ∀ g o n c, v = .slice (some ⟨g, o, none⟩) n c → ¬ A g) : StepsAt w' v l := by
  obtain ⟨ao, c, hv, h⟩ := h
  refine ⟨ao, c, hv, ?_⟩
  rcases h with h | ⟨g, o, rfl, hg, h⟩
  · exact .inl h
  · by_cases hl : l = []
    · exact .inl hl
    refine .inr ⟨g, o, rfl, Nat.lt_of_lt_of_le hg k.size, fun i s hi => ?_⟩
    obtain ⟨h0, h1, h2, h3⟩ := h i s hi
    have e : ∀ x, w'.cell? ⟨g, x, none⟩ = w.cell? ⟨g, x, none⟩ := fun x => k.cell hg (hA hl g o _ _ hv)
    exact ⟨by rw [e]; exact h0, by rw [e]; exact h1, by rw [e]; exact h2, by rw [e]; exact h3⟩

end Go.Proofs.Ytngbodmooddjbaa

namespace Go.Proofs.Ytngbodmooddjbaa
open Go.ChangeShapes Go.WideShapes Go.ChangeAt Go.RowKit Go.Deep

theorem laidOut : laidOutB Try.prog = true := by kernel_rfl

section
variable {H : Type} {enc : TypeId × Value → H} {P : Program}

/-- The arguments read as they did. -/
theorem trodAll_stays (hl : laidOutB P = true) {W W' : World} {sp : Nat → Bool} : ∀ {ts : List TypeId} {vs : List Value} {ds : List (DataW H)} {ps : List MemPlace}, (∀ t ∈ ts, P.readableRec t = true ∧ t < P.types.size) →
    DataW.TrodAll enc P W 0 (fun _ => true) true ts vs ds ps → (∀ p ∈ ps, W.sameAt W' p) → (∀ p ∈ ps, sp p.block = true) → DataW.TrodAll enc P W' 0 sp true ts vs ds ps
  | [], _, _, _, _, h, _, _ => by
    obtain ⟨rfl, rfl, rfl⟩ := trodAll_nil h
    exact trodAll_mk0
  | t :: ts, _, _, _, hr, h, hs, hp => by
    obtain ⟨v, vs1, d, ds1, a, b, rfl, rfl, rfl, h1, h2⟩ := trodAll_cons h
    exact trodAll_cons_mk (WideElems.Trod_stays hl (hr t (by simp)).1 (hr t (by simp)).2 h1 (fun p hp' => hs p (by simp [hp'])) (fun p hp' => hp p (by simp [hp'])))
      (trodAll_stays hl (fun t ht => hr t (by simp [ht])) h2 (fun p hp' => hs p (by simp [hp'])) (fun p hp' => hp p (by simp [hp'])))

/-- A slice whose elements are numbers, k cells each. -/
def NumsAt (w : World) (v : Value) (k : Nat) (kd : Nat → IntKind) (len : Nat) (c : Nat → Nat → Int) : Prop :=
  ∃ ao cap, v = .slice ao len cap ∧ len ≤ maxLen ∧ (len = 0 ∨ ∃ g o, ao = some ⟨g, o, none⟩ ∧ g < w.heap.size ∧ ∀ i, i < len → ∀ j, j < k → w.cell? ⟨g, o + (i * k + j), none⟩ = some (.int (kd j) (c i j)) ∧ (Lit.int (kd j) (c i j)).wf = true)

def isInt (P : Program) (t : TypeId) (k : IntKind) : Bool := match P.underlying t with | some (.int q) => decide (q = k) | _ => false
theorem isInt_of {t : TypeId} {k : IntKind} (h : isInt P t k = true) : P.underlying t = some (.int k) := by
  unfold isInt at h
  split at h
  · rename_i q hq; rw [hq, of_decide_eq_true h]
  · cases h
/-- All fields are numbers of these kinds. -/
def fieldInts (P : Program) (fs : Array Field) (kd : Nat → IntKind) : Bool := (List.range fs.size).all fun i => match fs[i]? with
  | some f => isInt P f.type (kd i)
  | none => false
theorem fieldInts_of {fs : Array Field} {kd : Nat → IntKind} (h : fieldInts P fs kd = true) : ∀ (j : Nat) (f : Field), fs[j]? = some f → P.underlying f.type = some (.int (kd j)) := by
  intro i f hi
  have hlt : i < fs.size := (Array.getElem?_eq_some_iff.1 hi).1
  have := List.all_eq_true.1 h i (List.mem_range.2 hlt)
  simp only [hi] at this
  exact isInt_of this

def numAt (w : World) (a : Addr) : Int := match w.cell? a with | some (.int _ n) => n | _ => 0

theorem open_nums {w : World} {sp : Nat → Bool} {held : Bool} {r : Reach} {b0 : Nat} {t e : TypeId} {fs : Array Field} {kd : Nat → IntKind} {v : Value} {d : DataW H} {ps : List MemPlace} (ht : P.underlying t = some (.slice e)) (he : P.underlying e = some (.struct fs))
    (hone : oneCellFields P fs = true) (hC : P.cellsOf e = fs.size) (hk0 : fieldInts P fs kd = true) {k : Nat} (hsz : fs.size = k) (h0 : 0 < k) (hv : Value.okWide P w r b0 t v) (h : DataW.Trod enc P w 0 sp held t v d ps) :
    ∃ len c, NumsAt w v k kd len c := by
  subst hsz
  have hf := fieldInts_of hk0
  obtain ⟨ao, len, cap, rfl⟩ := okWide_slice ht hv
  obtain ⟨fuel, h⟩ := h
  rcases open_slice ht h with ⟨hcs, _⟩ | ⟨a, len', cap', m, n, D, Pl, hcs, hb, hl, hm, hmm, hx, hi⟩
  · simp [Value.cells] at hcs
    obtain ⟨rfl, rfl, rfl⟩ := hcs
    exact ⟨0, fun _ _ => 0, none, 0, rfl, by simp, .inl rfl⟩
  · simp [Value.cells] at hcs
    obtain ⟨rfl, rfl, rfl⟩ := hcs
    refine ⟨len, fun i j => numAt w (a.add (i * fs.size + j)), some a, cap, rfl, Nat.le_trans hl hm, ?_⟩
    rcases Nat.eq_zero_or_pos len with e0 | e0
    · exact .inl e0
    · right
      have hlm : len ≤ m := by rw [hmm]; split <;> omega
      have cells : ∀ i, i < m → ∀ j, j < fs.size → ∃ x, w.cell? (a.add (i * fs.size + j)) = some (.int (kd j) x) ∧ (Lit.int (kd j) x).wf = true := by
        intro i him j hj
        obtain ⟨cs', hc, ht'⟩ := hi i him
        rw [hC] at hc
        obtain ⟨ys, n', hn', hy, hlen, hyl, hff⟩ := DataW.trod_struct he ht'
        obtain ⟨_, hcl, hat⟩ := World.cells?_some hc
        have hg : fs[j]? = some fs[j] := by simp [hj]
        obtain ⟨ho, hk⟩ := hone_of hone j _ hg
        have h1 := hff j _ hg
        rw [ho, hk, List.drop_eq_getElem_cons (by omega)] at h1
        have hys : ys[j]? = some (ys[j]'(by omega)) := List.getElem?_eq_getElem (by omega)
        rw [hys] at h1
        have h1' : DataW.trod enc P w 0 sp held n' fs[j].type [cs'[j]'(by omega)] = some (ys[j]'(by omega)) := h1
        obtain ⟨x, hx1, _, hwf⟩ := DataW.trod_int (hf j _ hg) h1'
        have hcell := hat j hj
        simp only [List.cons.injEq, and_true] at hx1
        refine ⟨x, ?_, hwf⟩
        rw [← Go.Deep.add_add, hcell, List.getElem?_eq_getElem (by omega), hx1]
      obtain ⟨g, o, spot⟩ := a
      obtain ⟨x0, hx0, _⟩ := cells 0 (by omega) 0 h0
      have hspot : spot = none := by simpa [Addr.add] using World.cell?_spot hx0
      subst hspot
      have hlt := World.block_lt_of_cell? _ _ hx0
      refine ⟨g, o, rfl, by simpa [Addr.add] using hlt, fun i hi' j hj => ?_⟩
      obtain ⟨x, hx1, hx2⟩ := cells i (by omega) j hj
      have e : (Addr.mk g o none).add (i * fs.size + j) = ⟨g, o + (i * fs.size + j), none⟩ := Go.WideShapes.add_plain ..
      rw [e] at hx1
      simp only [e]
      have e2 : numAt w ⟨g, o + (i * fs.size + j), none⟩ = x := by simp [numAt, hx1]
      rw [e2]
      exact ⟨hx1, hx2⟩
end

/-- The steps as a list. -/
def stpL (len : Nat) (c : Nat → Nat → Int) : List Stp := (List.range len).map fun i => (c i 0, c i 1, c i 2, c i 3)

theorem StepsAt.of {w : World} {v : Value} {len : Nat} {c : Nat → Nat → Int} (h : NumsAt w v 4 (fun _ => .i64) len c) : StepsAt w v (stpL len c) ∧ (stpL len c).length ≤ maxLen := by
  obtain ⟨ao, cap, rfl, hl, h⟩ := h
  have hlen : (stpL len c).length = len := by simp [stpL]
  refine ⟨⟨ao, cap, by rw [hlen], ?_⟩, by rw [hlen]; exact hl⟩
  rcases h with h | ⟨g, o, rfl, hg, h⟩
  · exact .inl (by simp [stpL, h])
  · refine .inr ⟨g, o, rfl, hg, fun i s hs => ?_⟩
    have hi : i < len := by
      rcases Nat.lt_or_ge i len with x | x
      · exact x
      · rw [List.getElem?_eq_none (by rw [hlen]; exact x)] at hs; cases hs
    simp [stpL, hi] at hs
    subst hs
    have := h i hi
    exact ⟨by simpa [Nat.add_assoc] using (this 0 (by omega)).1, by simpa [Nat.add_assoc] using (this 1 (by omega)).1, by simpa [Nat.add_assoc] using (this 2 (by omega)).1, by simpa [Nat.add_assoc] using (this 3 (by omega)).1⟩

set_option maxRecDepth 100000 in
theorem open_steps {H : Type} {enc : TypeId × Value → H} {w : World} {sp : Nat → Bool} {held : Bool} {r : Reach} {b0 : Nat} {v : Value} {d : DataW H} {ps : List MemPlace}
    (hv : Value.okWide Try.prog w r b0 36 v) (h : DataW.Trod enc Try.prog w 0 sp held 36 v d ps) : ∃ l, StepsAt w v l ∧ l.length ≤ maxLen := by
  obtain ⟨len, c, hn⟩ := open_nums (kd := fun _ => .i64) (k := 4) Try.underlying36 (fs := Try.prog.fieldsOf 108) (by kernel_rfl) (by kernel_rfl) (by kernel_rfl) (by kernel_rfl) (by kernel_rfl) (by omega) hv h
  exact ⟨_, StepsAt.of hn⟩

/-- A slice whose elements are one cell each. -/
theorem open_ones {H : Type} {enc : TypeId × Value → H} {P : Program} {w : World} {sp : Nat → Bool} {held : Bool} {r : Reach} {b0 : Nat} {t e : TypeId} {v : Value} {d : DataW H} {ps : List MemPlace} {α : Type} (f : α → Value) (ht : P.underlying t = some (.slice e)) (hc : P.cellsOf e = 1)
    (hf : ∀ (n : Nat) (u : Value) (x : DataW H × List MemPlace), DataW.trod enc P w 0 sp held n e [u] = some x → ∃ y, u = f y) (hv : Value.okWide P w r b0 t v) (h : DataW.Trod enc P w 0 sp held t v d ps) :
    ∃ (l : List α) (ao : Option Addr) (c : Nat), v = .slice ao l.length c ∧ l.length ≤ maxLen ∧ (l = [] ∨ ∃ g o, ao = some ⟨g, o, none⟩ ∧ g < w.heap.size ∧ ∀ i y, l[i]? = some y → w.cell? ⟨g, o + i, none⟩ = some (f y)) := by
  obtain ⟨ao, len, cap, rfl⟩ := okWide_slice ht hv
  obtain ⟨fuel, h⟩ := h
  rcases open_slice1 ht hc h with ⟨hcs, _⟩ | ⟨a, len', cap', m, n, V, D, Pl, hcs, hb, hl, hm, hmm, hx, hi⟩
  · simp [Value.cells] at hcs
    obtain ⟨rfl, rfl, rfl⟩ := hcs
    exact ⟨[], none, 0, rfl, by simp, .inl rfl⟩
  · simp [Value.cells] at hcs
    obtain ⟨rfl, rfl, rfl⟩ := hcs
    have hlm : len ≤ m := by rw [hmm]; split <;> omega
    have each : ∀ i, i < len → ∃ y, w.cell? (a.add i) = some (f y) := fun i hil => by
      obtain ⟨h1, h2⟩ := hi i (by omega)
      obtain ⟨y, hy⟩ := hf n _ _ h2
      exact ⟨y, by rw [h1, hy]⟩
    have lst : ∀ k, k ≤ len → ∃ l : List α, l.length = k ∧ ∀ i y, l[i]? = some y → w.cell? (a.add i) = some (f y) := by
      intro k
      induction k with
      | zero => exact fun _ => ⟨[], rfl, fun i y hy => by simp at hy⟩
      | succ k ih =>
        intro hk
        obtain ⟨l, hl1, hl2⟩ := ih (by omega)
        obtain ⟨y, hy⟩ := each k (by omega)
        refine ⟨l ++ [y], by simp [hl1], fun i z hz => ?_⟩
        rw [List.getElem?_append] at hz
        split at hz
        · exact hl2 i z hz
        · rename_i hh
          have e0 : i - l.length = 0 := by
            rcases Nat.eq_zero_or_pos (i - l.length) with e | e
            · exact e
            · rw [List.getElem?_eq_none (by simp; omega)] at hz; cases hz
          rw [e0] at hz
          simp at hz
          subst hz
          rw [show i = k by omega]
          exact hy
    obtain ⟨l, hl1, hl2⟩ := lst len (Nat.le_refl _)
    refine ⟨l, some a, cap, by rw [hl1], by rw [hl1]; exact Nat.le_trans hl hm, ?_⟩
    by_cases h0 : l = []
    · exact .inl h0
    · right
      have hp : 0 < l.length := List.length_pos_iff.2 h0
      have c0 := hl2 0 (l[0]) (by simp)
      obtain ⟨g, o, spot⟩ := a
      have hspot : spot = none := by simpa [Addr.add] using World.cell?_spot c0
      subst hspot
      refine ⟨g, o, rfl, by simpa [Addr.add] using World.block_lt_of_cell? _ _ c0, fun i y hy => ?_⟩
      have := hl2 i y hy
      rwa [show (Addr.mk g o none).add i = ⟨g, o + i, none⟩ from Go.WideShapes.add_plain ..] at this

set_option maxRecDepth 100000 in
theorem open_boolsL {H : Type} {enc : TypeId × Value → H} {w : World} {sp : Nat → Bool} {held : Bool} {r : Reach} {b0 : Nat} {v : Value} {d : DataW H} {ps : List MemPlace}
    (hv : Value.okWide Try.prog w r b0 44 v) (h : DataW.Trod enc Try.prog w 0 sp held 44 v d ps) : ∃ l, Bools w v l ∧ l.length ≤ maxLen := by
  obtain ⟨l, ao, c, hv, hl, hc⟩ := open_ones (α := Bool) Value.bool Try.underlying44 (by kernel_rfl) (fun n u x hx => by
    obtain ⟨b, hb, _⟩ := DataW.trod_bool Try.underlying4 hx
    exact ⟨b, (List.cons.inj hb).1⟩) hv h
  refine ⟨l, ⟨ao, c, hv, hl, ?_⟩, hl⟩
  rcases hc with hc | ⟨g, o, rfl, _, hc⟩
  · exact .inl hc
  · exact .inr ⟨g, o, rfl, hc⟩

/-- A slice of ints that reads as a list. -/
def IntsAt (w : World) (v : Value) (l : List Int) : Prop :=
  ∃ ao c, v = .slice ao l.length c ∧ l.length ≤ maxLen ∧ (l = [] ∨ ∃ g o, ao = some ⟨g, o, none⟩ ∧ g < w.heap.size ∧ ∀ (i : Nat) (y : Int), l[i]? = some y → w.cell? ⟨g, o + i, none⟩ = some (.int .i64 y))

set_option maxRecDepth 100000 in
theorem open_intsL {H : Type} {enc : TypeId × Value → H} {w : World} {sp : Nat → Bool} {held : Bool} {r : Reach} {b0 : Nat} {v : Value} {d : DataW H} {ps : List MemPlace}
    (hv : Value.okWide Try.prog w r b0 33 v) (h : DataW.Trod enc Try.prog w 0 sp held 33 v d ps) : ∃ l, IntsAt w v l ∧ ∀ y ∈ l, -9223372036854775808 ≤ y ∧ y ≤ 9223372036854775807 := by
  obtain ⟨l, ao, c, hv, hl, hc⟩ := open_ones (α := { y : Int // -9223372036854775808 ≤ y ∧ y ≤ 9223372036854775807 }) (fun y => .int .i64 y.1) Try.underlying33 (by kernel_rfl) (fun n u x hx => by
    obtain ⟨b, hb, _, hw⟩ := DataW.trod_int Try.underlying3 hx
    exact ⟨⟨b, bounds_i64 hw⟩, (List.cons.inj hb).1⟩) hv h
  refine ⟨l.map (·.1), ⟨ao, c, by simpa using hv, by simpa using hl, ?_⟩, fun y hy => ?_⟩
  · rcases hc with hc | ⟨g, o, rfl, hg, hc⟩
    · exact .inl (by simp [hc])
    · refine .inr ⟨g, o, rfl, hg, fun i y hy => ?_⟩
      rw [List.getElem?_map] at hy
      obtain ⟨z, hz, rfl⟩ := Option.map_eq_some_iff.1 hy
      exact hc i z hz
  · obtain ⟨z, _, rfl⟩ := List.mem_map.1 hy
    exact z.2

theorem IntsAt.kp {A : Nat → Prop} {w w' : World} {v : Value} {l : List Int} (h : IntsAt w v l) (k : Kp A w w') (hA : l ≠ [] → ∀ g o n c, v = .slice (some ⟨g, o, none⟩) n c → ¬ A g) : IntsAt w' v l := by
  obtain ⟨ao, c, hv, hl, h⟩ := h
  refine ⟨ao, c, hv, hl, ?_⟩
  rcases h with h | ⟨g, o, rfl, hg, h⟩
  · exact .inl h
  · by_cases hn : l = []
    · exact .inl hn
    · exact .inr ⟨g, o, rfl, Nat.lt_of_lt_of_le hg k.size, fun i y hy => by rw [k.cell hg (hA hn g o _ _ hv)]; exact h i y hy⟩
theorem IntsAt.no {w w' : World} {v : Value} {l : List Int} (h : IntsAt w v l) (k : Kp No w w') : IntsAt w' v l := h.kp k (fun _ _ _ _ _ _ x => x)

end Go.Proofs.Ytngbodmooddjbaa
