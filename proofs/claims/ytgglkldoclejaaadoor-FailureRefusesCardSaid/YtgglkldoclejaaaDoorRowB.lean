/-
  The arguments of the laws: what they read as, and that they read behind the call as before.
-/
import Derived.Test.YtgglkldoclejaaaDoorRow
import Derived.Test.YtgglkldoclejaaaDoorRunJ
import Derived.Deep.Slices
import Derived.Deep.Fields
namespace Go.Proofs.YtgglkldoclejaaaDoor
open Go.ChangeShapes Go.WideShapes Go.ChangeAt Go.RowKit Go.Deep

theorem laidOut : laidOutB Tryd.prog = true := by kernel_rfl

section
variable {H : Type} {enc : TypeId × Value → H} {P : Program}

/-- The arguments read as they did. -/
theorem trodAll_stays (hl : laidOutB P = true) {W W' : World} {sp : Nat → Bool} : ∀ {ts : List TypeId} {vs : List Value} {ds : List (DataW H)} {ps : List MemPlace}, (∀ t ∈ ts, P.readableRec t = true ∧ t < P.types.size) →
    DataW.TrodAll enc P W 0 (fun _ => true) true ts vs ds ps → (∀ p ∈ ps, W.sameAt W' p) → (∀ p ∈ ps, sp p.block = true) → DataW.TrodAll enc P W' 0 sp true ts vs ds ps
  | [], _, _, _, _, h, _, _ => by
    obtain ⟨rfl, rfl, rfl⟩ := trodAll_nil h
    exact trodAll_mk0
  | t :: ts, _, _, _, hr, h, hs, hp => by
    obtain ⟨v, vs1, d, ds1, a, b, rfl, rfl, rfl, h1, h2⟩ := trodAll_cons h
    exact trodAll_cons_mk (WideElems.Trod_stays hl (hr t (by simp)).1 (hr t (by simp)).2 h1 (fun p hp' => hs p (by simp [hp'])) (fun p hp' => hp p (by simp [hp'])))
      (trodAll_stays hl (fun t ht => hr t (by simp [ht])) h2 (fun p hp' => hs p (by simp [hp'])) (fun p hp' => hp p (by simp [hp'])))

/-- A slice whose elements are numbers, k cells each. -/
def NumsAt (w : World) (v : Value) (k : Nat) (kd : Nat → IntKind) (len : Nat) (c : Nat → Nat → Int) : Prop :=
  ∃ ao cap, v = .slice ao len cap ∧ len ≤ maxLen ∧ (len = 0 ∨ ∃ g o, ao = some ⟨g, o, none⟩ ∧ g < w.heap.size ∧ ∀ i, i < len → ∀ j, j < k → w.cell? ⟨g, o + (i * k + j), none⟩ = some (.int (kd j) (c i j)) ∧ (Lit.int (kd j) (c i j)).wf = true)

def isInt (P : Program) (t : TypeId) (k : IntKind) : Bool := match P.underlying t with | some (.int q) => decide (q = k) | _ => false
theorem isInt_of {t : TypeId} {k : IntKind} (h : isInt P t k = true) : P.underlying t = some (.int k) := by
  unfold isInt at h
  split at h
  · rename_i q hq; rw [hq, of_decide_eq_true h]
  · cases h
/-- All fields are numbers of these kinds. -/
def fieldInts (P : Program) (fs : Array Field) (kd : Nat → IntKind) : Bool := (List.range fs.size).all fun i => match fs[i]? with
  | some f => isInt P f.type (kd i)
  | none => false
theorem fieldInts_of {fs : Array Field} {kd : Nat → IntKind} (h : fieldInts P fs kd = true) : ∀ (j : Nat) (f : Field), fs[j]? = some f → P.underlying f.type = some (.int (kd j)) := by
  intro i f hi
  have hlt : i < fs.size := (Array.getElem?_eq_some_iff.1 hi).1
  have := List.all_eq_true.1 h i (List.mem_range.2 hlt)
  simp only [hi] at this
  exact isInt_of this

def numAt (w : World) (a : Addr) : Int := match w.cell? a with | some (.int _ n) => n | _ => 0

theorem open_nums {w : World} {sp : Nat → Bool} {held : Bool} {r : Reach} {b0 : Nat} {t e : TypeId} {fs : Array Field} {kd : Nat → IntKind} {v : Value} {d : DataW H} {ps : List MemPlace} (ht : P.underlying t = some (.slice e)) (he : P.underlying e = some (.struct fs))
    (hone : oneCellFields P fs = true) (hC : P.cellsOf e = fs.size) (hk0 : fieldInts P fs kd = true) {k : Nat} (hsz : fs.size = k) (h0 : 0 < k) (hv : Value.okWide P w r b0 t v) (h : DataW.Trod enc P w 0 sp held t v d ps) :
    ∃ len c, NumsAt w v k kd len c := by
  subst hsz
  have hf := fieldInts_of hk0
  obtain ⟨ao, len, cap, rfl⟩ := okWide_slice ht hv
  obtain ⟨fuel, h⟩ := h
  rcases open_slice ht h with ⟨hcs, _⟩ | ⟨a, len', cap', m, n, D, Pl, hcs, hb, hl, hm, hmm, hx, hi⟩
  · simp [Value.cells] at hcs
    obtain ⟨rfl, rfl, rfl⟩ := hcs
    exact ⟨0, fun _ _ => 0, none, 0, rfl, by simp, .inl rfl⟩
  · simp [Value.cells] at hcs
    obtain ⟨rfl, rfl, rfl⟩ := hcs
    refine ⟨len, fun i j => numAt w (a.add (i * fs.size + j)), some a, cap, rfl, Nat.le_trans hl hm, ?_⟩
    rcases Nat.eq_zero_or_pos len with e0 | e0
    · exact .inl e0
    · right
      have hlm : len ≤ m := by rw [hmm]; split <;> omega
      have cells : ∀ i, i < m → ∀ j, j < fs.size → ∃ x, w.cell? (a.add (i * fs.size + j)) = some (.int (kd j) x) ∧ (Lit.int (kd j) x).wf = true := by
        intro i him j hj
        obtain ⟨cs', hc, ht'⟩ := hi i him
        rw [hC] at hc
        obtain ⟨ys, n', hn', hy, hlen, hyl, hff⟩ := DataW.trod_struct he ht'
        obtain ⟨_, hcl, hat⟩ := World.cells?_some hc
        have hg : fs[j]? = some fs[j] := by simp [hj]
        obtain ⟨ho, hk⟩ := hone_of hone j _ hg
        have h1 := hff j _ hg
        rw [ho, hk, List.drop_eq_getElem_cons (by omega)] at h1
        have hys : ys[j]? = some (ys[j]'(by omega)) := List.getElem?_eq_getElem (by omega)
        rw [hys] at h1
        have h1' : DataW.trod enc P w 0 sp held n' fs[j].type [cs'[j]'(by omega)] = some (ys[j]'(by omega)) := h1
        obtain ⟨x, hx1, _, hwf⟩ := DataW.trod_int (hf j _ hg) h1'
        have hcell := hat j hj
        simp only [List.cons.injEq, and_true] at hx1
        refine ⟨x, ?_, hwf⟩
        rw [← Go.Deep.add_add, hcell, List.getElem?_eq_getElem (by omega), hx1]
      obtain ⟨g, o, spot⟩ := a
      obtain ⟨x0, hx0, _⟩ := cells 0 (by omega) 0 h0
      have hspot : spot = none := by simpa [Addr.add] using World.cell?_spot hx0
      subst hspot
      have hlt := World.block_lt_of_cell? _ _ hx0
      refine ⟨g, o, rfl, by simpa [Addr.add] using hlt, fun i hi' j hj => ?_⟩
      obtain ⟨x, hx1, hx2⟩ := cells i (by omega) j hj
      have e : (Addr.mk g o none).add (i * fs.size + j) = ⟨g, o + (i * fs.size + j), none⟩ := Go.WideShapes.add_plain ..
      rw [e] at hx1
      simp only [e]
      have e2 : numAt w ⟨g, o + (i * fs.size + j), none⟩ = x := by simp [numAt, hx1]
      rw [e2]
      exact ⟨hx1, hx2⟩
end

/-- The steps as a list. -/
def stpL (len : Nat) (c : Nat → Nat → Int) : List Stp := (List.range len).map fun i => (c i 0, c i 1, c i 2, c i 3)

theorem StepsAt.of {w : World} {v : Value} {len : Nat} {c : Nat → Nat → Int} (h : NumsAt w v 4 (fun _ => .i64) len c) : StepsAt w v (stpL len c) ∧ (stpL len c).length ≤ maxLen := by
  obtain ⟨ao, cap, rfl, hl, h⟩ := h
  have hlen : (stpL len c).length = len := by simp [stpL]
  refine ⟨⟨ao, cap, by rw [hlen], ?_⟩, by rw [hlen]; exact hl⟩
  rcases h with h | ⟨g, o, rfl, hg, h⟩
  · exact .inl (by simp [stpL, h])
  · refine .inr ⟨g, o, rfl, hg, fun i s hs => ?_⟩
    have hi : i < len := by
      rcases Nat.lt_or_ge i len with x | x
      · exact x
      · rw [List.getElem?_eq_none (by rw [hlen]; exact x)] at hs; cases hs
    simp [stpL, hi] at hs
    subst hs
    have := h i hi
    exact ⟨by simpa [Nat.add_assoc] using (this 0 (by omega)).1, by simpa [Nat.add_assoc] using (this 1 (by omega)).1, by simpa [Nat.add_assoc] using (this 2 (by omega)).1, by simpa [Nat.add_assoc] using (this 3 (by omega)).1⟩

/-- A slice whose elements are one cell each. -/
theorem open_ones {H : Type} {enc : TypeId × Value → H} {P : Program} {w : World} {sp : Nat → Bool} {held : Bool} {r : Reach} {b0 : Nat} {t e : TypeId} {v : Value} {d : DataW H} {ps : List MemPlace} {α : Type} (f : α → Value) (ht : P.underlying t = some (.slice e)) (hc : P.cellsOf e = 1)
    (hf : ∀ (n : Nat) (u : Value) (x : DataW H × List MemPlace), DataW.trod enc P w 0 sp held n e [u] = some x → ∃ y, u = f y) (hv : Value.okWide P w r b0 t v) (h : DataW.Trod enc P w 0 sp held t v d ps) :
    ∃ (l : List α) (ao : Option Addr) (c : Nat), v = .slice ao l.length c ∧ l.length ≤ maxLen ∧ (l = [] ∨ ∃ g o, ao = some ⟨g, o, none⟩ ∧ g < w.heap.size ∧ ∀ i y, l[i]? = some y → w.cell? ⟨g, o + i, none⟩ = some (f y)) := by
  obtain ⟨ao, len, cap, rfl⟩ := okWide_slice ht hv
  obtain ⟨fuel, h⟩ := h
  rcases open_slice1 ht hc h with ⟨hcs, _⟩ | ⟨a, len', cap', m, n, V, D, Pl, hcs, hb, hl, hm, hmm, hx, hi⟩
  · simp [Value.cells] at hcs
    obtain ⟨rfl, rfl, rfl⟩ := hcs
    exact ⟨[], none, 0, rfl, by simp, .inl rfl⟩
  · simp [Value.cells] at hcs
    obtain ⟨rfl, rfl, rfl⟩ := hcs
    have hlm : len ≤ m := by rw [hmm]; split <;> omega
    have each : ∀ i, i < len → ∃ y, w.cell? (a.add i) = some (f y) := fun i hil => by
      obtain ⟨h1, h2⟩ := hi i (by omega)
      obtain ⟨y, hy⟩ := hf n _ _ h2
      exact ⟨y, by rw [h1, hy]⟩
    have lst : ∀ k, k ≤ len → ∃ l : List α, l.length = k ∧ ∀ i y, l[i]? = some y → w.cell? (a.add i) = some (f y) := by
      intro k
      induction k with
      | zero => exact fun _ => ⟨[], rfl, fun i y hy => by simp at hy⟩
      | succ k ih =>
        intro hk
        obtain ⟨l, hl1, hl2⟩ := ih (by omega)
        obtain ⟨y, hy⟩ := each k (by omega)
        refine ⟨l ++ [y], by simp [hl1], fun i z hz => ?_⟩
        rw [List.getElem?_append] at hz
        split at hz
        · exact hl2 i z hz
        · rename_i hh
          have e0 : i - l.length = 0 := by
            rcases Nat.eq_zero_or_pos (i - l.length) with e | e
            · exact e
            · rw [List.getElem?_eq_none (by simp; omega)] at hz; cases hz
          rw [e0] at hz
          simp at hz
          subst hz
          rw [show i = k by omega]
          exact hy
    obtain ⟨l, hl1, hl2⟩ := lst len (Nat.le_refl _)
    refine ⟨l, some a, cap, by rw [hl1], by rw [hl1]; exact Nat.le_trans hl hm, ?_⟩
    by_cases h0 : l = []
    · exact .inl h0
    · right
      have hp : 0 < l.length := List.length_pos_iff.2 h0
      have c0 := hl2 0 (l[0]) (by simp)
      obtain ⟨g, o, spot⟩ := a
      have hspot : spot = none := by simpa [Addr.add] using World.cell?_spot c0
      subst hspot
      refine ⟨g, o, rfl, by simpa [Addr.add] using World.block_lt_of_cell? _ _ c0, fun i y hy => ?_⟩
      have := hl2 i y hy
      rwa [show (Addr.mk g o none).add i = ⟨g, o + i, none⟩ from Go.WideShapes.add_plain ..] at this

set_option maxRecDepth 100000 in
theorem open_boolsL {H : Type} {enc : TypeId × Value → H} {w : World} {sp : Nat → Bool} {held : Bool} {r : Reach} {b0 : Nat} {v : Value} {d : DataW H} {ps : List MemPlace}
    (hv : Value.okWide Tryd.prog w r b0 31 v) (h : DataW.Trod enc Tryd.prog w 0 sp held 31 v d ps) : ∃ l, Bools w v l ∧ l.length ≤ maxLen := by
  obtain ⟨l, ao, c, hv, hl, hc⟩ := open_ones (α := Bool) Value.bool Tryd.underlying31 (by kernel_rfl) (fun n u x hx => by
    obtain ⟨b, hb, _⟩ := DataW.trod_bool Tryd.underlying4 hx
    exact ⟨b, (List.cons.inj hb).1⟩) hv h
  refine ⟨l, ⟨ao, c, hv, hl, ?_⟩, hl⟩
  rcases hc with hc | ⟨g, o, rfl, _, hc⟩
  · exact .inl hc
  · exact .inr ⟨g, o, rfl, hc⟩

/-- A slice of ints that reads as a list. -/
def IntsAt (w : World) (v : Value) (l : List Int) : Prop :=
  ∃ ao c, v = .slice ao l.length c ∧ l.length ≤ maxLen ∧ (l = [] ∨ ∃ g o, ao = some ⟨g, o, none⟩ ∧ g < w.heap.size ∧ ∀ (i : Nat) (y : Int), l[i]? = some y → w.cell? ⟨g, o + i, none⟩ = some (.int .i64 y))

set_option maxRecDepth 100000 in
theorem open_intsL {H : Type} {enc : TypeId × Value → H} {w : World} {sp : Nat → Bool} {held : Bool} {r : Reach} {b0 : Nat} {v : Value} {d : DataW H} {ps : List MemPlace}
    (hv : Value.okWide Tryd.prog w r b0 26 v) (h : DataW.Trod enc Tryd.prog w 0 sp held 26 v d ps) : ∃ l, IntsAt w v l ∧ ∀ y ∈ l, -9223372036854775808 ≤ y ∧ y ≤ 9223372036854775807 := by
  obtain ⟨l, ao, c, hv, hl, hc⟩ := open_ones (α := { y : Int // -9223372036854775808 ≤ y ∧ y ≤ 9223372036854775807 }) (fun y => .int .i64 y.1) Tryd.underlying26 (by kernel_rfl) (fun n u x hx => by
    obtain ⟨b, hb, _, hw⟩ := DataW.trod_int Tryd.underlying3 hx
    exact ⟨⟨b, bounds_i64 hw⟩, (List.cons.inj hb).1⟩) hv h
  refine ⟨l.map (·.1), ⟨ao, c, by simpa using hv, by simpa using hl, ?_⟩, fun y hy => ?_⟩
  · rcases hc with hc | ⟨g, o, rfl, hg, hc⟩
    · exact .inl (by simp [hc])
    · refine .inr ⟨g, o, rfl, hg, fun i y hy => ?_⟩
      rw [List.getElem?_map] at hy
      obtain ⟨z, hz, rfl⟩ := Option.map_eq_some_iff.1 hy
      exact hc i z hz
  · obtain ⟨z, _, rfl⟩ := List.mem_map.1 hy
    exact z.2

theorem IntsAt.kp {A : Nat → Prop} {w w' : World} {v : Value} {l : List Int} (h : IntsAt w v l) (k : Kp A w w') (hA : l ≠ [] → ∀ g o n c, v = .slice (some ⟨g, o, none⟩) n c → ¬ A g) : IntsAt w' v l := by
  obtain ⟨ao, c, hv, hl, h⟩ := h
  refine ⟨ao, c, hv, hl, ?_⟩
  rcases h with h | ⟨g, o, rfl, hg, h⟩
  · exact .inl h
  · by_cases hn : l = []
    · exact .inl hn
    · exact .inr ⟨g, o, rfl, Nat.lt_of_lt_of_le hg k.size, fun i y hy => by rw [k.cell hg (hA hn g o _ _ hv)]; exact h i y hy⟩
theorem IntsAt.no {w w' : World} {v : Value} {l : List Int} (h : IntsAt w v l) (k : Kp No w w') : IntsAt w' v l := h.kp k (fun _ _ _ _ _ _ x => x)

end Go.Proofs.YtgglkldoclejaaaDoor
