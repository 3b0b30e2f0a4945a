/-
  Plain mathematics: what 'Run' of the package netverifylaw26 does to a manager and to functions.
-/
import Derived.Test.YtgglkldoclejaaaDoorRes
import Derived.Test.YtgglkldoclejaaaDoorTab
import Derived.Test.YtgglkldoclejaaaDoorAwake
namespace Go.Proofs.YtgglkldoclejaaaDoor

/-- A step: Op, A, B, C. -/
abbrev Stp := Int × Int × Int × Int
abbrev BF := (Nat → Bool) → Bool

/-- The last bit of C. -/
def lastBit (c : Int) : Bool := bits BinOp.and IntKind.i64 c 1 == 1

def opM (n : Nat) (M : Mgr) (fs : List Int) (s : Stp) : Mgr × Int :=
  let fa := fs.getD (pick s.2.1 fs.length) 0
  let fb := fs.getD (pick s.2.2.1 fs.length) 0
  let fc := fs.getD (pick s.2.2.2 fs.length) 0
  let o := pick s.1 6
  let N := (M.notM fa).1
  if o = 1 then N.andM fa fb else if o = 2 then N.orM fa fb else if o = 3 then N.xorM fa fb else if o = 4 then N.iteM fa fb fc
  else if o = 5 then N.restrictM fa (pick s.2.2.1 n : Int) (lastBit s.2.2.2) else M.notM fa

def opF (n : Nat) (Fs : List BF) (s : Stp) : BF :=
  let fa := Fs.getD (pick s.2.1 Fs.length) (fun _ => false)
  let fb := Fs.getD (pick s.2.2.1 Fs.length) (fun _ => false)
  let fc := Fs.getD (pick s.2.2.2 Fs.length) (fun _ => false)
  let o := pick s.1 6
  if o = 1 then fun a => fa a && fb a else if o = 2 then fun a => fa a || fb a else if o = 3 then fun a => fa a ^^ fb a else if o = 4 then fun a => if fa a then fb a else fc a
  else if o = 5 then fun a => fa (Mgr.upd a (pick s.2.2.1 n) (lastBit s.2.2.2)) else fun a => !fa a

def stepM (n : Nat) (S : Mgr × List Int) (s : Stp) : Mgr × List Int := ((opM n S.1 S.2 s).1, S.2 ++ [(opM n S.1 S.2 s).2])
def stepF (n : Nat) (Fs : List BF) (s : Stp) : List BF := Fs ++ [opF n Fs s]

def varsM (M : Mgr) : Nat → Mgr × List Int
  | 0 => (M, [0, 1])
  | k + 1 => ((varsM M k).1.varM (k : Int)).1 |> fun X => (X, (varsM M k).2 ++ [((varsM M k).1.varM (k : Int)).2])
def varsF : Nat → List BF
  | 0 => [fun _ => false, fun _ => true]
  | k + 1 => varsF k ++ [fun a => a k]

def runM (M : Mgr) (n : Nat) (l : List Stp) : Mgr × List Int := l.foldl (stepM n) (varsM M n)
def runF (n : Nat) (l : List Stp) : List BF := l.foldl (stepF n) (varsF n)

/-- The Refs denote the functions. -/
structure RP (n c : Nat) (M : Mgr) (fs : List Int) (Fs : List BF) : Prop where
  wf : M.WF
  nn : M.n = n
  len : Fs.length = fs.length
  pos : 2 ≤ fs.length
  sem : ∀ (i : Nat) (f : Int) (F : BF), fs[i]? = some f → Fs[i]? = some F → M.valid f = true ∧ (∀ a, M.sem f.toNat a = F a) ∧ Upto n F
  cost : M.nodes.length ≤ c

theorem Upto.reads {n : Nat} {F : BF} (h : Upto n F) {M : Mgr} (hn : M.n = n) : M.Reads 0 F := fun a b hab => h a b (fun v hv => hab v (by omega) (by omega))

/-- What holds of an entry. -/
theorem RP.at {n c : Nat} {M : Mgr} {fs : List Int} {Fs : List BF} (h : RP n c M fs Fs) {i : Nat} (hi : i < fs.length) :
    M.valid (fs.getD i 0) = true ∧ (∀ a, M.sem (fs.getD i 0).toNat a = Fs.getD i (fun _ => false) a) ∧ Upto n (Fs.getD i (fun _ => false)) := by
  have hi2 : i < Fs.length := by rw [h.len]; exact hi
  have := h.sem i fs[i] Fs[i] (by simp [hi]) (by simp [hi2])
  simpa [hi, hi2] using this

/-- One entry more. -/
theorem RP.push {n c k : Nat} {M M' : Mgr} {fs : List Int} {Fs : List BF} {F : BF} {r : Int} (h : RP n c M fs Fs) (o : Mgr.OpS M F k M' r) (hF : Upto n F) (c' : Nat) (hc : c + k ≤ c') : RP n c' M' (fs ++ [r]) (Fs ++ [F]) := by
  refine ⟨o.wf, by rw [o.n, h.nn], by simp [h.len], by have := h.pos; simp; omega, fun i f G hf hG => ?_, by have := o.len; have := h.cost; omega⟩
  rw [List.getElem?_append] at hf hG
  split at hf
  · rename_i hi
    rw [if_pos (by rw [h.len]; exact hi)] at hG
    obtain ⟨a1, a2, a3⟩ := h.sem i f G hf hG
    obtain ⟨b1, b2⟩ := o.old f a1
    exact ⟨b1, fun a => by rw [b2, a2], a3⟩
  · rename_i hi
    rw [if_neg (by rw [h.len]; exact hi)] at hG
    have hf0 : i - fs.length = 0 := by
      rcases Nat.eq_zero_or_pos (i - fs.length) with e | e
      · exact e
      · rw [List.getElem?_eq_none (by simp; omega)] at hf; cases hf
    rw [hf0] at hf
    rw [h.len, hf0] at hG
    simp at hf hG
    subst hf; subst hG
    exact ⟨o.ok, o.sem, hF⟩

/-- Only the manager has changed. -/
theorem RP.grow {n c k : Nat} {M M' : Mgr} {fs : List Int} {Fs : List BF} {F : BF} {r : Int} (h : RP n c M fs Fs) (o : Mgr.OpS M F k M' r) (c' : Nat) (hc : c + k ≤ c') : RP n c' M' fs Fs := by
  refine ⟨o.wf, by rw [o.n, h.nn], h.len, h.pos, fun i f G hf hG => ?_, by have := o.len; have := h.cost; omega⟩
  obtain ⟨a1, a2, a3⟩ := h.sem i f G hf hG
  obtain ⟨b1, b2⟩ := o.old f a1
  exact ⟨b1, fun a => by rw [b2, a2], a3⟩

theorem n_cost {n : Nat} (hn : n ≤ 6) : n * 2 ^ n ≤ 384 := by
  have := pow_le_64 hn
  have : n * 2 ^ n ≤ 6 * 64 := Nat.mul_le_mul hn this
  omega

structure OpSpec (n c : Nat) (M : Mgr) (fs : List Int) (Fs : List BF) (s : Stp) : Prop where
  next : RP n (c + 1152) (opM n M fs s).1 (fs ++ [(opM n M fs s).2]) (Fs ++ [opF n Fs s])
  up : Upto n (opF n Fs s)

/-- The first operation of a step. -/
theorem not_ops {n c : Nat} {M : Mgr} {fs : List Int} {Fs : List BF} (hn : n ≤ 6) (h : RP n c M fs Fs) {i : Nat} (hi : i < fs.length) :
    Mgr.OpS M (fun a => !(Fs.getD i (fun _ => false)) a) 384 (M.notM (fs.getD i 0)).1 (M.notM (fs.getD i 0)).2 ∧ Upto n (fun a => !(Fs.getD i (fun _ => false)) a) := by
  obtain ⟨va, sa, ua⟩ := h.at hi
  have u : Upto n (fun a => !(Fs.getD i (fun _ => false)) a) := fun a b hab => by show (!_) = (!_); rw [ua a b hab]
  have o := Mgr.notM_ops h.wf va (F := fun a => !(Fs.getD i (fun _ => false)) a) (fun a => by rw [sa]) (Mgr.states_any (u.reads h.nn))
  rw [h.nn] at o
  exact ⟨⟨o.wf, o.order, o.level, o.ok, o.sem, o.old, Nat.le_trans o.len (by have := n_cost hn; omega)⟩, u⟩

theorem step_spec {n c : Nat} {M : Mgr} {fs : List Int} {Fs : List BF} (hn : n ≤ 6) (h1 : 1 ≤ n) (h : RP n c M fs Fs) (s : Stp) : OpSpec n c M fs Fs s := by
  have hp := h.pos
  have la := pick_lt s.2.1 (n := fs.length) (by omega)
  have lb := pick_lt s.2.2.1 (n := fs.length) (by omega)
  have lc := pick_lt s.2.2.2 (n := fs.length) (by omega)
  obtain ⟨on, un⟩ := not_ops hn h la
  have hN := h.grow on (c + 384) (Nat.le_refl _)
  obtain ⟨va, sa, ua⟩ := hN.at la
  obtain ⟨vb, sb, ub⟩ := hN.at lb
  obtain ⟨vc, sc, uc⟩ := hN.at lc
  have nc := n_cost hn
  have fin : ∀ {F : BF} {k : Nat} {R : Mgr × Int}, Mgr.OpS (M.notM (fs.getD (pick s.2.1 fs.length) 0)).1 F k R.1 R.2 → k ≤ 768 → Upto n F → opM n M fs s = R → opF n Fs s = F → OpSpec n c M fs Fs s := fun {F k R} o hk hF e1 e2 => by
    constructor
    · rw [e1, e2]; exact hN.push o hF _ (by omega)
    · rw [e2]; exact hF
  unfold opM opF at fin
  rw [h.len] at fin
  by_cases h1' : pick s.1 6 = 1
  · have u : Upto n (fun a => (Fs.getD (pick s.2.1 fs.length) (fun _ => false)) a && (Fs.getD (pick s.2.2.1 fs.length) (fun _ => false)) a) := fun a b hab => by show (_ && _) = (_ && _); rw [ua a b hab, ub a b hab]
    have o := Mgr.andM_ops hN.wf va vb (F := _) (fun a => by rw [sa, sb]) (Mgr.states_any (u.reads hN.nn))
    rw [hN.nn] at o
    exact fin o (by omega) u (by simp only [h1', if_true]) (by simp only [h1', if_true])
  · by_cases h2 : pick s.1 6 = 2
    · have u : Upto n (fun a => (Fs.getD (pick s.2.1 fs.length) (fun _ => false)) a || (Fs.getD (pick s.2.2.1 fs.length) (fun _ => false)) a) := fun a b hab => by show (_ || _) = (_ || _); rw [ua a b hab, ub a b hab]
      have o := Mgr.orM_ops hN.wf va vb (F := _) (fun a => by rw [sa, sb]) (Mgr.states_any (u.reads hN.nn))
      rw [hN.nn] at o
      exact fin o (by omega) u (by rw [if_neg h1', if_pos h2]) (by rw [if_neg h1', if_pos h2])
    · by_cases h3 : pick s.1 6 = 3
      · have u : Upto n (fun a => (Fs.getD (pick s.2.1 fs.length) (fun _ => false)) a ^^ (Fs.getD (pick s.2.2.1 fs.length) (fun _ => false)) a) := fun a b hab => by show (_ ^^ _) = (_ ^^ _); rw [ua a b hab, ub a b hab]
        have ut : Upto n (fun a => !(M.notM (fs.getD (pick s.2.1 fs.length) 0)).1.sem (fs.getD (pick s.2.2.1 fs.length) 0).toNat a) := fun a b hab => by show (!_) = (!_); rw [sb, sb, ub a b hab]
        have o := Mgr.xorM_ops hN.wf va vb (F := _) (fun a => by rw [sa, sb]) (Mgr.states_any (u.reads hN.nn)) (Mgr.states_any (ut.reads hN.nn))
        rw [hN.nn] at o
        exact fin o (by omega) u (by rw [if_neg h1', if_neg h2, if_pos h3]) (by rw [if_neg h1', if_neg h2, if_pos h3])
      · by_cases h4 : pick s.1 6 = 4
        · have u : Upto n (fun a => if (Fs.getD (pick s.2.1 fs.length) (fun _ => false)) a then (Fs.getD (pick s.2.2.1 fs.length) (fun _ => false)) a else (Fs.getD (pick s.2.2.2 fs.length) (fun _ => false)) a) := fun a b hab => by
            show (if _ then _ else _) = (if _ then _ else _); rw [ua a b hab, ub a b hab, uc a b hab]
          have o := Mgr.iteM_ops hN.wf va vb vc (F := _) (fun a => by rw [sa, sb, sc]) (Mgr.states_any (u.reads hN.nn))
          rw [hN.nn] at o
          exact fin o (by omega) u (by rw [if_neg h1', if_neg h2, if_neg h3, if_pos h4]) (by rw [if_neg h1', if_neg h2, if_neg h3, if_pos h4])
        · by_cases h5 : pick s.1 6 = 5
          · have hv := pick_lt s.2.2.1 (n := n) (by omega)
            have u : Upto n (fun a => (Fs.getD (pick s.2.1 fs.length) (fun _ => false)) (Mgr.upd a (pick s.2.2.1 n) (lastBit s.2.2.2))) := fun a b hab => ua _ _ (fun v hv => by
              unfold Mgr.upd; split
              · rfl
              · exact hab v hv)
            have o := Mgr.restrictM_ops hN.wf va (v := pick s.2.2.1 n) (by rw [hN.nn]; exact hv) (lastBit s.2.2.2) (F := _) (fun a => by rw [sa]) (Mgr.states_any (u.reads hN.nn))
            rw [hN.nn] at o
            exact fin o (by omega) u (by rw [if_neg h1', if_neg h2, if_neg h3, if_neg h4, if_pos h5]) (by rw [if_neg h1', if_neg h2, if_neg h3, if_neg h4, if_pos h5])
          · refine ⟨?_, ?_⟩
            · unfold opM opF
              rw [h.len]
              simp only [h1', h2, h3, h4, h5, if_false]
              exact h.push on un _ (by omega)
            · unfold opF
              rw [h.len]
              simp only [h1', h2, h3, h4, h5, if_false]
              exact un

theorem vars_spec {n : Nat} {M : Mgr} (wf : M.WF) (hn : M.n = n) (h6 : n ≤ 6) {c : Nat} (hc : M.nodes.length ≤ c) : ∀ k, k ≤ n → RP n (c + k) (varsM M k).1 (varsM M k).2 (varsF k)
  | 0, _ => by
    refine ⟨wf, hn, rfl, by simp [varsM], fun i f F hf hF => ?_, by simpa [varsM] using hc⟩
    match i, hf, hF with
    | 0, hf, hF =>
      simp [varsM, varsF] at hf hF
      subst hf; subst hF
      exact ⟨Mgr.valid_zero wf, fun a => Mgr.sem_zero M a, fun _ _ _ => rfl⟩
    | 1, hf, hF =>
      simp [varsM, varsF] at hf hF
      subst hf; subst hF
      exact ⟨Mgr.valid_one wf, fun a => Mgr.sem_one M a, fun _ _ _ => rfl⟩
    | i + 2, hf, _ => simp [varsM] at hf
  | k + 1, hk => by
    have ih := vars_spec wf hn h6 hc k (by omega)
    have o := Mgr.varM_ops ih.wf (v := k) (by rw [ih.nn]; omega)
    exact ih.push o (fun a b hab => hab k (by omega)) _ (by omega)

theorem run_spec {n : Nat} {M : Mgr} (wf : M.WF) (hn : M.n = n) (h6 : n ≤ 6) (h1 : 1 ≤ n) {c : Nat} (hc : M.nodes.length ≤ c) (l : List Stp) : ∀ k, k ≤ l.length → RP n (c + n + k * 1152) (runM M n (l.take k)).1 (runM M n (l.take k)).2 (runF n (l.take k))
  | 0, _ => by simpa [runM, runF] using vars_spec wf hn h6 hc n (Nat.le_refl _)
  | k + 1, hk => by
    have ih := run_spec wf hn h6 h1 hc l k (by omega)
    have := (step_spec h6 h1 ih (l[k]'(by omega))).next
    rw [List.take_succ_eq_append_getElem (by omega)]
    unfold runM runF at *
    rw [List.foldl_append, List.foldl_append]
    simp only [List.foldl_cons, List.foldl_nil, stepM, stepF]
    rw [show c + n + (k + 1) * 1152 = c + n + k * 1152 + 1152 by omega]
    exact this

end Go.Proofs.YtgglkldoclejaaaDoor
