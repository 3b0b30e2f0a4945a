/-
  For the second half of 'adopt': the names that the visit leaves, the rows of nodes.
-/
import Derived.Test.YtngbodmooddjbaaGreatAv
import Derived.Test.YtngbodmooddjbaaGreatAz
import Derived.Test.YtngbodmooddjbaaGreatRefV
namespace Go.Proofs.YtngbodmooddjbaaGreat
open Go.RowKit

theorem walkAll_mem {M : Mgr} (h : M.WF) : ∀ (rs : List Nat), (∀ f, f ∈ rs → M.stored f) → ∀ r, r ∈ rs → 2 ≤ r → r ∈ (walkAll M rs).2 := by
  have grow : ∀ (rs : List Nat) (s : List Nat × List Nat), SeenV M s → (∀ f, f ∈ rs → M.stored f) → (∀ g, g ∈ s.2 → g ∈ (rs.foldl (fun s f => M.walkS (M.n + 1) s f) s).2) ∧ ∀ r, r ∈ rs → 2 ≤ r → r ∈ (rs.foldl (fun s f => M.walkS (M.n + 1) s f) s).2 := by
    intro rs
    induction rs with
    | nil => intro s _ _; exact ⟨fun g hg => hg, fun r hr => by cases hr⟩
    | cons f rs ih =>
      intro s v hs
      rw [List.foldl_cons]
      have hf := hs f (.head _)
      obtain ⟨N, sp⟩ := Mgr.walk_spec h (M.n + 1) f s hf (by omega)
      have v2 := v.walk h hf
      obtain ⟨i1, i2⟩ := ih _ v2 (fun g hg => hs g (.tail _ hg))
      refine ⟨fun g hg => i1 g (by rw [sp.vis]; exact List.mem_append.2 (.inl hg)), fun r hr h2 => ?_⟩
      rcases List.mem_cons.1 hr with rfl | hr
      · exact i1 _ ((v2.mem _).1 (sp.self h2))
      · exact i2 r hr h2
  intro rs hs r hr h2
  exact (grow rs _ (SeenV.nil M) hs).2 r hr h2

/-- The names at the end of the visit. -/
theorem names_of {M N : Mgr} (hN : N.WF) {R us : List Nat} {K0 : Int → Option Nat} {k : Nat} (hR : ∀ r, r ∈ R → N.stored r) (ni : NmI us ⟨K0, k, M.shown.length⟩)
    (hM0 : M.vis 0 = true) (hM1 : M.vis 1 = true)
    (k1 : ∀ x f, K0 x = some f → ∃ g : Nat, x = (g : Int) ∧ N.stored g ∧ M.vis f = true ∧ ∀ a, N.sem g a = M.sem f a)
    (k2 : ∀ f, M.vis f = true → ∃ g : Nat, K0 (g : Int) = some f ∧ (g < 2 ∨ g ∈ R)) :
    Mgr.Names M N (walkAll N R).2 (fun g => (nmAll us ⟨K0, k, M.shown.length⟩ (walkAll N R).2).K (g : Int)) (nmAll us ⟨K0, k, M.shown.length⟩ (walkAll N R).2).num := by
  have sv := walkAll_seen hN R hR
  have mem := walkAll_mem hN R hR
  generalize hV : (walkAll N R) = S at *
  obtain ⟨S1, V⟩ := S
  simp only at *
  have fin := ni.all V
  have low : ∀ c : Nat, c < 2 → M.vis c = true → (nmAll us ⟨K0, k, M.shown.length⟩ V).K (c : Int) = some c := fun c hc hv => by
    obtain ⟨g, hg, _⟩ := k2 c hv
    obtain ⟨g', e, sg, _, es⟩ := k1 _ _ hg
    have : g' = g := by omega
    subst this
    have : g' = c := Mgr.canon hN sg (.inl hc) (fun a => by rw [es, M.sem_const _ _ hc, N.sem_const _ _ hc])
    subst this
    exact nmAll_mono V (s := ⟨K0, k, M.shown.length⟩) hg
  refine ⟨sv.nodup, sv.st, fun g hg => ?_, low 0 (by omega) hM0, low 1 (by omega) hM1, fun g hg => ?_, fun g h x hg hh => ?_, fun f hf => ?_, (nmAll_num V ⟨K0, k, M.shown.length⟩).1⟩
  · have hs := (sv.mem g).2 hg
    obtain ⟨c1, c2⟩ := sv.closed g hs (Nat.zero_le _) (sv.st g hg).2
    constructor
    · rcases Nat.lt_or_ge (N.nd g).2.1 2 with h | h
      · exact .inl h
      · exact .inr ((sv.mem _).1 (c1 h))
    · rcases Nat.lt_or_ge (N.nd g).2.2 2 with h | h
      · exact .inl h
      · exact .inr ((sv.mem _).1 (c2 h))
  · obtain ⟨x, hx⟩ := nmAll_has (us := us) V (s := ⟨K0, k, M.shown.length⟩) hg
    exact ⟨x, hx, (fin.rng _ _ hx).1⟩
  · have := fin.inj _ _ x hg hh
    omega
  · obtain ⟨g, hg, hin⟩ := k2 f hf
    obtain ⟨g', e, sg, _, es⟩ := k1 _ _ hg
    have : g' = g := by omega
    subst this
    refine ⟨g', nmAll_mono V (s := ⟨K0, k, M.shown.length⟩) hg, ?_, es⟩
    rcases hin with h | h
    · exact .inl h
    · rcases Nat.lt_or_ge g' 2 with h2 | h2
      · exact .inl h2
      · exact .inr (mem g' h h2)

/-- The nodes while 'none' is written into the first j. -/
def njL (num j : Nat) : List Nd := (List.range num).map fun i => if i < j then ((-1 : Int), 0, 0) else (0, 0, 0)
theorem njL_len (num j : Nat) : (njL num j).length = num := by simp [njL]
theorem njL_set (num j : Nat) : (njL num j).set j ((-1 : Int), 0, 0) = njL num (j + 1) := by
  apply List.ext_getElem
  · simp [njL]
  · intro i h1 h2
    rw [List.getElem_set]
    simp only [njL, List.getElem_map, List.getElem_range]
    by_cases e : j = i
    · subst e; rw [if_pos rfl, if_pos (by omega)]
    · rw [if_neg e]
      by_cases hi : i < j
      · rw [if_pos hi, if_pos (by omega)]
      · rw [if_neg hi, if_neg (by omega)]
theorem njL_all (num : Nat) : njL num num = List.replicate num ((-1 : Int), 0, 0) := by
  apply List.ext_getElem
  · simp [njL]
  · intro i h1 h2
    simp only [njL, List.getElem_map, List.getElem_range, List.getElem_replicate]
    rw [if_pos (by simpa [njL] using h1)]
theorem flat_rep (n : Nat) (x : Nd) : (List.replicate n x).flatMap ndCells = (List.range (n * 3)).map fun i => (ndCells x)[i % 3]?.getD (.int .i64 0) := by
  apply List.ext_getElem?
  intro i
  by_cases h : i < n * 3
  · have e : i = i / 3 * 3 + i % 3 := by omega
    have h2 := ndCells_get (List.replicate n x) (i / 3) (i % 3) x (by rw [List.getElem?_replicate, if_pos (by omega)]) (Nat.mod_lt _ (by omega))
    rw [← e] at h2
    rw [h2, List.getElem?_map, List.getElem?_range h]
    have hm := Nat.mod_lt i (show 0 < 3 by omega)
    have : (ndCells x)[i % 3]? = some ((ndCells x)[i % 3]'(by simp [ndCells]; omega)) := List.getElem?_eq_getElem _
    show _ = some ((ndCells x)[i % 3]?.getD (.int .i64 0))
    rw [this]; rfl
  · rw [List.getElem?_eq_none (by rw [flat_length, List.length_replicate]; omega), List.getElem?_eq_none (by simp; omega)]
theorem njL_zero (num : Nat) : (njL num 0).flatMap ndCells = (madeCells (Value.cells (.agg #[.int .i64 0, .int .i64 0, .int .i64 0])) (num * 3)).toList := by
  have e : njL num 0 = List.replicate num ((0 : Int), 0, 0) := by
    apply List.ext_getElem
    · simp [njL]
    · intro i h1 h2
      simp [njL]
  rw [e, flat_rep]
  simp only [madeCells, Array.toList_map, Array.toList_range]
  apply List.map_congr_left
  intro i hi
  have hm := Nat.mod_lt i (show 0 < 3 by omega)
  have : i % 3 = 0 ∨ i % 3 = 1 ∨ i % 3 = 2 := by omega
  rcases this with h | h | h <;> simp [ndCells, Value.cells, h]
theorem flat_set0 (l : List Nd) (f : Nat) (v : Int) (h : f < l.length) : (l.flatMap ndCells).set (f * 3) (.int .i64 v) = (l.set f (v, (l.getD f (0, 0, 0)).2)).flatMap ndCells := by
  rw [← flat_set l f (v, (l.getD f (0, 0, 0)).2) h]
  obtain ⟨e0, e1, e2⟩ := flat_get h
  apply List.ext_getElem?
  intro i
  rw [List.getElem?_set (i := f * 3 + 2), List.getElem?_set (i := f * 3 + 1)]
  by_cases h2 : f * 3 + 2 = i
  · subst h2
    rw [if_pos rfl, List.getElem?_set, if_neg (by omega), e2]
    split
    · rfl
    · rename_i hn
      simp only [List.length_set, flat_length] at hn
      omega
  · rw [if_neg h2]
    by_cases h1 : f * 3 + 1 = i
    · subst h1
      rw [if_pos rfl, List.getElem?_set, if_neg (by omega), e1]
      split
      · rfl
      · rename_i hn
        simp only [List.length_set, flat_length] at hn
        omega
    · rw [if_neg h1]

/-- The field 'order' is set. -/
theorem Raw.setOrder {w : World} {p : Nat} {L : Lay} {order level : List Nat} {nodes : List Nd} {shown : List Bool} {free : List Nat} {U F : Trip → Option Nat} {l : List Nat} {v : Value} (R : Raw w p L order level nodes shown free U F) (h : w.ownsRow 0 3 1 v l.length (l.map natV)) :
    Raw (w.setCell ⟨p, 0, none⟩ v) p { L with so := v } l level nodes shown free U F where
  mgr := by rw [setCell_heap R.mgr]; rfl
  order := ownsRow_set h (R.row_mgr h (by decide))
  level := ownsRow_set R.level (R.row_mgr R.level (by decide))
  nodes := ownsRow_set R.nodes (R.row_mgr R.nodes (by decide))
  shown := ownsRow_set R.shown (R.row_mgr R.shown (by decide))
  free := ownsRow_set R.free (R.row_mgr R.free (by decide))
  uniq := R.uniq.kp (Kp.setCell _ _) (fun x => R.map_ne R.uniq x)
  memo := R.memo.kp (Kp.setCell _ _) (fun x => R.map_ne R.memo x)
  ne := R.ne
/-- The field 'level' is set. -/
theorem Raw.setLevel {w : World} {p : Nat} {L : Lay} {order level : List Nat} {nodes : List Nd} {shown : List Bool} {free : List Nat} {U F : Trip → Option Nat} {l : List Nat} {v : Value} (R : Raw w p L order level nodes shown free U F) (h : w.ownsRow 0 3 1 v l.length (l.map natV)) :
    Raw (w.setCell ⟨p, 1, none⟩ v) p { L with sl := v } order l nodes shown free U F where
  mgr := by rw [setCell_heap R.mgr]; rfl
  order := ownsRow_set R.order (R.row_mgr R.order (by decide))
  level := ownsRow_set h (R.row_mgr h (by decide))
  nodes := ownsRow_set R.nodes (R.row_mgr R.nodes (by decide))
  shown := ownsRow_set R.shown (R.row_mgr R.shown (by decide))
  free := ownsRow_set R.free (R.row_mgr R.free (by decide))
  uniq := R.uniq.kp (Kp.setCell _ _) (fun x => R.map_ne R.uniq x)
  memo := R.memo.kp (Kp.setCell _ _) (fun x => R.map_ne R.memo x)
  ne := R.ne

end Go.Proofs.YtngbodmooddjbaaGreat
