/-
  Walks: 'Save' of the package bdd.
-/
import Derived.Test.YtohinonkfhkclaaTab
import Derived.Test.YtohinonkfhkclaaBdd
namespace Go.Proofs.Ytohinonkfhkclaa
open Go.RowKit

/-- The last place of g in a list that is laid down backwards. -/
def lookR : List Nat → Nat → Option Nat
  | [], _ => none
  | f :: R, g => if g = f then some R.length else lookR R g

/-- The index of g among the nodes V: what the map 'index' holds. -/
def idxF (V : List Nat) : Int → Option Nat := fun x => if 0 ≤ x then (match lookR V.reverse x.toNat with | some i => some (i + 2) | none => if x.toNat < 2 then some x.toNat else none) else none
def code0 (V : List Nat) (g : Nat) : Nat := (idxF V (g : Int)).getD 0

theorem idxF_snoc (V : List Nat) (f : Nat) : (fun x : Int => if x = (f : Int) then some (V.length + 2) else idxF V x) = idxF (V ++ [f]) := by
  funext x
  unfold idxF
  by_cases e : x = (f : Int)
  · subst e
    simp [lookR]
  · rw [if_neg e]
    by_cases h0 : 0 ≤ x
    · have : ¬ x.toNat = f := by omega
      simp [lookR, this]
    · simp [h0]

/-- The nodes as 'Save' lists them. -/
def saveN (M : Mgr) (V : List Nat) : List Nd := (List.range V.length).map fun i => ((M.nd (V.getD i 0)).1, code0 (V.take (i + 1)) (M.nd (V.getD i 0)).2.1, code0 (V.take (i + 1)) (M.nd (V.getD i 0)).2.2)
theorem saveN_len (M : Mgr) (V : List Nat) : (saveN M V).length = V.length := by simp [saveN]
theorem saveN_snoc (M : Mgr) (V : List Nat) (f : Nat) : saveN M (V ++ [f]) = saveN M V ++ [((M.nd f).1, code0 (V ++ [f]) (M.nd f).2.1, code0 (V ++ [f]) (M.nd f).2.2)] := by
  unfold saveN
  rw [List.length_append, List.length_singleton, List.range_succ, List.map_append]
  congr 1
  · apply List.map_congr_left
    intro i hi
    have hi' : i < V.length := by simpa using hi
    have e1 : (V ++ [f]).getD i 0 = V.getD i 0 := by simp [List.getD_eq_getElem?_getD, List.getElem?_append_left hi']
    have e2 : (V ++ [f]).take (i + 1) = V.take (i + 1) := List.take_append_of_le_length (by omega)
    rw [e1, e2]
  · have e1 : (V ++ [f]).getD V.length 0 = f := by simp
    have e2 : (V ++ [f]).take (V.length + 1) = V ++ [f] := by rw [List.take_of_length_le (by simp)]
    simp only [List.map_cons, List.map_nil, e1, e2]

theorem zeroInt (w : World) : (zeroValue 3).run Try.prog w = .ok (.int .i64 0) w := by kernel_rfl
theorem row_zero {w : World} {B e size n : Nat} {v : Value} {xs : List Value} (h : w.ownsRow B e size v n xs) : w.ownsRow 0 e size v n xs := ⟨h.1, by
  rcases h.2 with x | ⟨g, cap, cur, hv, hg, r⟩
  · exact .inl x
  · exact .inr ⟨g, cap, cur, hv, Nat.zero_le _, r⟩⟩
theorem row_box {w : World} {B e size n : Nat} {v : Value} {xs : List Value} (h : w.ownsRow B e size v n xs) {z : Nat} {cs : Array Value} {t : TypeId} {fr : Nat × Nat} (h1 : w.heap[z]? = some (.cells cs t fr)) (h2 : t ≠ e) : ¬ v.ownBlock = some z := fun h3 => by
  obtain ⟨c1, g1⟩ := ownsRow_block h h3
  rw [g1] at h1
  cases h1
  exact h2 rfl
theorem map_box {K V : Type} [DecidableEq K] {w : World} {b : Nat} {enc : K → Value} {ev : V → Value} {f : K → Option V} (h : MapAs w b enc ev f) {z : Nat} {cs : Array Value} {t : TypeId} {fr : Nat × Nat} (h1 : w.heap[z]? = some (.cells cs t fr)) : z ≠ b := by
  rintro rfl
  obtain ⟨es, cl, hb, _⟩ := h
  rw [hb] at h1
  cases h1

/-! ### the whole of 'Save' -/
def saveStep (M : Mgr) (st : (List Nat × List Nat) × List Int) (f : Int) : (List Nat × List Nat) × List Int :=
  if M.valid f = true then (M.walkS (M.n + 1) st.1 f.toNat, st.2 ++ [(code0 (M.walkS (M.n + 1) st.1 f.toNat).2 f.toNat : Int)]) else (st.1, st.2 ++ [-1])
def saveM (M : Mgr) (fs : List Int) : (List Nat × List Nat) × List Int := fs.foldl (saveStep M) (([], []), [])
theorem saveM_snoc (M : Mgr) (fs : List Int) (f : Int) : saveM M (fs ++ [f]) = saveStep M (saveM M fs) f := by simp [saveM, List.foldl_append]
theorem saveStep_len (M : Mgr) (st : (List Nat × List Nat) × List Int) (f : Int) : (saveStep M st f).2.length = st.2.length + 1 := by
  unfold saveStep; split <;> simp
theorem saveM_len (M : Mgr) (fs : List Int) : (saveM M fs).2.length = fs.length := by
  have : ∀ (fs : List Int) st, (fs.foldl (saveStep M) st).2.length = st.2.length + fs.length := by
    intro fs
    induction fs with
    | nil => intro st; rfl
    | cons f fs ih => intro st; rw [List.foldl_cons, ih, saveStep_len, List.length_cons]; omega
  have h := this fs (([], []), [])
  simpa [saveM] using h

/-- What has been seen is what has been visited. -/
structure SeenV (M : Mgr) (s : List Nat × List Nat) : Prop where
  mem : ∀ g, g ∈ s.1 ↔ g ∈ s.2
  nodup : s.2.Nodup
  st : ∀ g, g ∈ s.2 → M.stored g ∧ 2 ≤ g
  closed : M.Closed 0 s.1
theorem SeenV.nil (M : Mgr) : SeenV M ([], []) := ⟨fun _ => Iff.rfl, List.nodup_nil, fun g h => by simp at h, fun g h => by simp at h⟩
theorem SeenV.len {M : Mgr} (h : M.WF) {s : List Nat × List Nat} (v : SeenV M s) : s.2.length ≤ M.nodes.length := by
  have hsub : ∀ g, g ∈ s.2 → g ∈ List.range M.nodes.length := fun g hg => by
    obtain ⟨st, h2⟩ := v.st g hg
    simpa using M.stored_lt h st
  have := Mgr.nodup_length _ _ v.nodup hsub
  simpa using this
theorem SeenV.walk {M : Mgr} (h : M.WF) {s : List Nat × List Nat} (v : SeenV M s) {f : Nat} (hf : M.stored f) : SeenV M (M.walkS (M.n + 1) s f) := by
  obtain ⟨N, sp⟩ := Mgr.walk_spec h (M.n + 1) f s hf (by omega)
  refine ⟨fun g => ?_, ?_, fun g hg => ?_, ?_⟩
  · rw [sp.seen, sp.vis, List.mem_append, v.mem]
  · rw [sp.vis, List.nodup_append]
    exact ⟨v.nodup, sp.nodup, fun a ha b hb e => sp.fresh b hb ((v.mem b).2 (e ▸ ha))⟩
  · rw [sp.vis, List.mem_append] at hg
    rcases hg with hg | hg
    · exact v.st g hg
    · exact ⟨(sp.deep g hg).1, (sp.deep g hg).2.1⟩
  · exact sp.closed 0 (Nat.zero_le _) (fun g hg _ h2 => v.closed g hg (Nat.zero_le _) h2) v.closed
theorem saveM_seen {M : Mgr} (h : M.WF) (fs : List Int) : SeenV M (saveM M fs).1 := by
  have : ∀ (fs : List Int) st, SeenV M st.1 → SeenV M (fs.foldl (saveStep M) st).1 := by
    intro fs
    induction fs with
    | nil => intro st hs; exact hs
    | cons f fs ih =>
      intro st hs
      rw [List.foldl_cons]
      apply ih
      unfold saveStep
      split
      · rename_i hv
        obtain ⟨k, rfl, sk, _⟩ := Mgr.valid_nat h hv
        exact hs.walk h (by rw [Int.toNat_natCast]; exact sk)
      · exact hs
  exact this fs _ (SeenV.nil M)

theorem idxF_nil : (fun x : Int => if x = 1 then some 1 else if x = 0 then some 0 else (none : Option Nat)) = idxF [] := by
  funext x
  unfold idxF
  simp only [List.reverse_nil, lookR]
  by_cases h1 : x = 1
  · subst h1; rfl
  · rw [if_neg h1]
    by_cases h0 : x = 0
    · subst h0; rfl
    · rw [if_neg h0]
      by_cases hp : 0 ≤ x
      · rw [if_pos hp, if_neg (by omega)]
      · rw [if_neg hp]

end Go.Proofs.Ytohinonkfhkclaa
