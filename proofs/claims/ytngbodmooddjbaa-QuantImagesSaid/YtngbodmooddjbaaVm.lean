/-
  Walks: 'SortedFunc' of the package slices at variables, by their levels.
-/
import Derived.Test.YtngbodmooddjbaaVk
import Derived.Test.YtngbodmooddjbaaCm
import Derived.Shelf.SlGeneric
import Derived.Shelf.SlSortCmp.Whole1
import Derived.Ground.SlsfProg
namespace Go.Proofs.Ytngbodmooddjbaa
open Go.RowKit Go.Lib Go.Shelf Go.Sort

shelf_lay_g SlLaysF.n6 Slsf 6 at Try 118 as Try.sortInts

/-- The variables below n. -/
abbrev VarT (n : Nat) : Type := { v : Nat // v < n }
def encV {n : Nat} (x : VarT n) : Value := .int .i64 (x.1 : Int)
def cfV (lev : Nat → Nat) {n : Nat} (x y : VarT n) : Int := compareInt (lev x.1 : Int) (lev y.1 : Int)
theorem ltV (lev : Nat → Nat) {n : Nat} (x y : VarT n) : ltOf (cfV lev) x y = decide (lev x.1 < lev y.1) := by
  unfold ltOf cfV compareInt
  by_cases h1 : (lev x.1 : Int) < lev y.1
  · have : lev x.1 < lev y.1 := by omega
    simp [h1, this]
  · have h3 : ¬ lev x.1 < lev y.1 := by omega
    by_cases h2 : (lev x.1 : Int) > lev y.1 <;> simp [h1, h2, h3]
theorem swoV (lev : Nat → Nat) (n : Nat) : SWO (ltOf (cfV lev (n := n))) where
  irrefl x := by rw [ltV]; simp
  trans x y z h1 h2 := by rw [ltV] at *; simp at *; omega
  ntrans x y z h1 h2 := by rw [ltV] at *; simp at *; omega

section
variable {α : Type} [Inhabited α] {enc : α → Value}
theorem kp_sortWorld {w : World} {g n : Nat} {os : Array Obj} (d : Array α) : Kp (fun k => k = g) w (sortWorld enc w g 0 n d os) := by
  refine ⟨rfl, rfl, rfl, by simp [sortWorld, grow], fun k hk hne => ?_⟩
  unfold sortWorld
  rw [heap_grow_old _ _ (by simpa using hk)]
  have : g ≠ k := fun e => hne e.symm
  simp [putRow, mapBlock, Sort.ahead, Array.getElem?_modify, this]
theorem heap_sortWorld {w : World} {g n : Nat} {os : Array Obj} {cur : Array Value} {e : TypeId} {fr : Nat × Nat} (d : Array α) (hb : w.heap[g]? = some (.cells cur e fr)) :
    (sortWorld enc w g 0 n d os).heap[g]? = some (.cells (putCells enc 0 d cur) e fr) := by
  have hg : g < w.heap.size := (Array.getElem?_eq_some_iff.1 hb).1
  unfold sortWorld
  rw [heap_grow_old _ _ (by simpa using hg)]
  simp [putRow, mapBlock, Sort.ahead, Array.getElem?_modify, hb, onCells]
theorem take_putCells (cur : Array Value) (d : Array α) (h : d.size ≤ cur.size) : (putCells enc 0 d cur).toList.take d.size = d.toList.map enc := by
  apply List.ext_getElem?
  intro j
  by_cases hj : j < d.size
  · rw [List.getElem?_take_of_lt hj, Array.getElem?_toList]
    simp [putCells, hj, show j < cur.size by omega]
  · rw [List.getElem?_take_eq_none (by omega), List.getElem?_eq_none (by simp; omega)]
theorem ownsRow_sortWorld {w : World} {base g cap n : Nat} {e : TypeId} {os : Array Obj} {k : Nat} {xs : List Value} {d : Array α} (row : w.ownsRow base e 1 (.slice (some ⟨g, 0, none⟩) k cap) k xs) (hk : d.size = k) :
    (sortWorld enc w g 0 n d os).ownsRow base e 1 (.slice (some ⟨g, 0, none⟩) k cap) k (d.toList.map enc) := by
  rcases row.2 with ⟨h, _⟩ | ⟨g', cap', cur, hv, hb, hg, h1, h2, h3, h4⟩
  · cases h
  · cases hv
    refine ⟨by simp [hk], .inr ⟨g, cap, _, rfl, hb, heap_sortWorld d hg, h1, h2, by simp [putCells, h3], ?_⟩⟩
    rw [Nat.mul_one, ← hk]
    exact take_putCells cur d (by omega)
end

/-- Variables in the order of their levels. -/
def SrtPost (w : World) (lev : Nat → Nat) (vs : List Nat) (e : Ending) (w' : World) : Prop :=
  ∃ (a : Option Addr) (c : Nat) (ss : List Nat), e = .returned (.slice a vs.length c) ∧ ss.Perm vs ∧ ss.Pairwise (fun x y => lev x ≤ lev y) ∧ w'.ownsRow w.heap.size 3 1 (.slice a vs.length c) vs.length (ss.map natV) ∧ Kp No w w'

set_option maxRecDepth 100000 in
set_option maxHeartbeats 2000000 in
theorem SortedFunc_ok (Bs bx gl n c : Nat) (sv : Value) (lev : Nat → Nat) (vs : List Nat) (hvs : ∀ v, v ∈ vs → v < n) (hlen : vs.length ≤ 1000000) {w : World} (hBs : Bs < w.heap.size) (hc : w.cell? ⟨Bs, 0, none⟩ = some sv) (hI : SrcAt w sv 1 vs.length (vs.map natV)) (hpos : 0 < vs.length)
    (hbx : bx < w.heap.size) (hgl : gl < w.heap.size) (hb : w.cell? ⟨bx, 0, none⟩ = some (.slice (some ⟨gl, 0, none⟩) n c)) (hl : ∀ v, v < n → w.cell? ⟨gl, v, none⟩ = some (.int .i64 (lev v : Int))) :
    Calls Try.prog 95 #[.func (.func 119) #[] #[.pointer (some ⟨Bs, 0, none⟩)], .func (.func 97) #[] #[.pointer (some ⟨bx, 0, none⟩)]] w (SrtPost w lev vs) := by
  have e1 : (vs.map Int.ofNat).map (Value.int .i64) = vs.map natV := by rw [List.map_map]; rfl
  have CO := Lib.hid (Collect_ok Bs sv (vs.map Int.ofNat) (by rw [List.length_map]; unfold maxLen; omega) (by rw [List.length_map]; omega) w hBs hc (by rw [e1, List.length_map]; exact hI))
  rw [e1, List.length_map] at CO
  have SF : Hid (∀ (w1 : World) (g cap : Nat), Kp No w w1 → w1.ownsRow w.heap.size 3 1 (.slice (some ⟨g, 0, none⟩) vs.length cap) vs.length (vs.map natV) →
      Calls Try.prog 118 #[.slice (some ⟨g, 0, none⟩) vs.length cap, .func (.func 97) #[] #[.pointer (some ⟨bx, 0, none⟩)]] w1 fun e w' => e = .returned (.tuple #[]) ∧ SrtPost w lev vs (.returned (.slice (some ⟨g, 0, none⟩) vs.length cap)) w') := Lib.hid (fun w1 g cap k1 row => by
    have hg := row.lt g rfl
    obtain ⟨v0, hv0⟩ : ∃ v, v ∈ vs := by
      cases vs with
      | nil => simp at hpos
      | cons a _ => exact ⟨a, List.mem_cons_self⟩
    haveI : Inhabited (VarT n) := ⟨⟨v0, hvs v0 hv0⟩⟩
    obtain ⟨ds, hds⟩ : ∃ ds : List (VarT n), ds.map (·.1) = vs := ⟨vs.attach.map (fun x => ⟨x.1, hvs x.1 x.2⟩), by simp [List.map_map, Function.comp_def]⟩
    have hdl : ds.toArray.size = vs.length := by rw [← hds]; simp
    have hen : ds.map encV = vs.map natV := by rw [← hds, List.map_map]; rfl
    obtain ⟨g', cap', hv', _, _, _, hcell, hfz⟩ := ownsRow_open row hpos
    cases hv'
    have hH : Holds encV w1 g 0 ds.toArray := fun j hj => by
      rw [hdl] at hj
      refine ⟨?_, hfz _⟩
      rw [Nat.zero_add]
      refine hcell j _ ?_
      rw [← hen, List.getElem?_map]
      have hj2 : j < ds.length := by simpa using (show j < ds.toArray.size by omega)
      rw [List.getElem?_eq_getElem hj2]
      simp [hj2]
    have hcmp : CmpLays1 Try.prog 97 #[.pointer (some ⟨bx, 0, none⟩)] encV (cfV lev (n := n)) g 0 ds.toArray.size w1 := CmpReads.lays (fun m os dk hs x y => by
      have kk : Kp (fun k => k = g) w1 (sortWorld encV w1 g 0 m dk os) := kp_sortWorld dk
      have kc : ∀ (bb j : Nat) (u : Value), bb < w.heap.size → w.cell? ⟨bb, j, none⟩ = some u → (sortWorld encV w1 g 0 m dk os).cell? ⟨bb, j, none⟩ = some u := fun bb j u hbb hcl => by
        have h1 := k1.block bb hbb (fun z => z)
        have h2 := kk.block bb (by have := k1.size; omega) (fun e => by have := hg.1; omega)
        simp only [World.cell?] at hcl ⊢
        rw [h2, h1]; exact hcl
      exact levCmp_ok bx gl n c lev x.1 y.1 x.2 y.2 (kc bx 0 _ hbx hb) (fun v hv => kc gl v _ hgl (hl v hv)))
    have hcon := Any.slices_SortFunc Try.sortInts encV (fun _ => rfl) (cfV lev) (swoV lev n) 97 #[.pointer (some ⟨bx, 0, none⟩)] g 0 cap ds.toArray w1 (enters_of Try.func97 (by kernel_rfl) rfl) hcmp hH hg.2 (by omega)
    rw [hdl] at hcon
    refine Calls.mono hcon ?_
    rintro e w' ⟨rfl, d', m, os, hp, hs, rfl⟩
    refine ⟨rfl, some ⟨g, 0, none⟩, cap, d'.toList.map (·.1), rfl, ?_, ?_, ?_, ?_⟩
    · have h3 := hp.2.2
      have x1 : d'.extract 0 vs.length = d' := by rw [← hdl, ← hp.1]; simp
      have x2 : ds.toArray.extract 0 vs.length = ds.toArray := by rw [← hdl]; simp
      rw [x1, x2] at h3
      have h4 := h3.map (fun x : VarT n => x.1)
      rw [show (ds.toArray.toList.map fun x : VarT n => x.1) = vs from hds] at h4
      exact h4
    · rw [List.pairwise_iff_getElem]
      intro i j hi hj hij
      have hj' : j < d'.size := by simpa using hj
      have hi' : i < d'.size := by simpa using hi
      have h5 := hs i j (Nat.zero_le _) hij (by rw [← hdl, ← hp.1]; exact hj')
      rw [ltV, getElem!_pos d' j hj', getElem!_pos d' i hi'] at h5
      have h6 := of_decide_eq_false h5
      simp only [List.getElem_map, Array.getElem_toList]
      omega
    · have := ownsRow_sortWorld (enc := encV (n := n)) (n := m) (os := os) (d := d') row (by rw [hp.1, hdl])
      rw [show (d'.toList.map (·.1)).map natV = d'.toList.map encV by rw [List.map_map]; rfl]
      exact this
    · exact k1.trans (A' := fun k => k = g) (fun z hz => .inr (by have := hg.1; omega)) (kp_sortWorld d'))
  clear hI hc hb hl hvs
  go_enter Try.func95, Try.ntmps95
  go_wp2_with fail
  refine CO.out.mono ?_
  rintro e w1 ⟨v, rfl, row, k1⟩
  obtain ⟨g, cap, rfl, _⟩ := ownsRow_open row hpos
  have SC := Lib.hid (SF.out w1 g cap k1 row)
  clear row k1 SF CO
  go_wp2_with fail
  refine SC.out.mono ?_
  rintro e w2 ⟨rfl, post⟩
  have RET := Lib.hid post
  clear post SC
  go_wp2_with fail
  go_ret
  exact RET.out

end Go.Proofs.Ytngbodmooddjbaa
