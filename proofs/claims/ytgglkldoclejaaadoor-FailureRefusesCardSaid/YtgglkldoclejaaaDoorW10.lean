/-
  Walks: 'New' of the package bdd.
-/
import Derived.Test.YtgglkldoclejaaaDoorW9
import Derived.LoopTactic
namespace Go.Proofs.YtgglkldoclejaaaDoor
open Go.RowKit

/-- A new manager. -/
def Mgr.new (n : Nat) : Mgr := { order := List.range n, level := List.range n, nodes := [(-1, 0, 0), (-1, 0, 0)], shown := [true, true], free := [] }

theorem Mgr.new_wf (n : Nat) : (Mgr.new n).WF where
  len := rfl
  ol := fun v hv => by
    have : v < n := by simpa [Mgr.n, Mgr.new] using hv
    simp [Mgr.lev, Mgr.ord, Mgr.new, Mgr.n, this]
  lo_ := fun v hv => by
    have : v < n := by simpa [Mgr.n, Mgr.new] using hv
    simp [Mgr.lev, Mgr.ord, Mgr.new, Mgr.n, this]
  two := by simp [Mgr.new]
  nd0 := rfl
  nd1 := rfl
  sh := rfl
  sh0 := rfl
  sh1 := rfl
  shst := fun f hf => by
    rcases Nat.lt_or_ge f 2 with h | h
    · exact .inl h
    · have : (Mgr.new n).vis f = false := by
        unfold Mgr.vis
        simp only [Mgr.new, List.getD_eq_getElem?_getD]
        rw [List.getElem?_eq_none (by simpa using h)]; rfl
      rw [this] at hf; cases hf
  node := fun f h2 hl => by
    have : f < 2 := by simpa [Mgr.new] using hl
    omega
  inj := fun f g h2 _ hl => by
    have : f < 2 := by simpa [Mgr.new] using hl
    omega
  fr := fun f hf => by simp [Mgr.new] at hf
  fnd := by simp [Mgr.new]

theorem Mgr.new_uq (n : Nat) : (Mgr.new n).uq = fun _ => none := by
  funext x
  unfold Mgr.uq
  split
  · cases h : (Mgr.new n).find (x.1, x.2.1.toNat, x.2.2.toNat) with
    | none => rfl
    | some r =>
      obtain ⟨h2, hl, _⟩ := Mgr.find_some h
      have : r < 2 := by simpa [Mgr.new] using hl
      omega
  · rfl

section
variable {w : World} {p : Nat} {L : Lay} {order level : List Nat} {nodes : List Nd} {shown : List Bool} {free : List Nat} {U F : Trip → Option Nat}
theorem Raw.pushOrder {w' : World} {v : Value} (R : Raw w p L order level nodes shown free U F) (hk : Kp (fun k => L.so.ownBlock = some k) w w') (order' : List Nat)
    (hn : w'.ownsRow 0 3 1 v order'.length (order'.map natV)) (hd : ∀ k, L.sl.ownBlock = some k → L.so.ownBlock ≠ some k) : Raw (w'.setCell ⟨p, 0, none⟩ v) p { L with so := v } order' level nodes shown free U F := by
  have mg : w'.heap[p]? = _ := (hk.block p R.plt (R.row_mgr R.order (by decide))).trans R.mgr
  have np : v.ownBlock ≠ some p := fun e => by
    obtain ⟨c1, g1⟩ := ownsRow_block hn e
    rw [mg] at g1
    cases g1
  have row : ∀ {e s n u x}, e ≠ 3 → e ≠ 105 → w.ownsRow 0 e s u n x → (w'.setCell ⟨p, 0, none⟩ v).ownsRow 0 e s u n x := fun h1 h2 h =>
    ownsRow_set (ownsRow_kp h hk (fun k e x => row_ne h R.order h1 e x)) (R.row_mgr h h2)
  exact {
    mgr := by rw [setCell_heap mg]; rfl
    order := ownsRow_set hn np
    level := ownsRow_set (ownsRow_kp R.level hk hd) (R.row_mgr R.level (by decide))
    nodes := row (by decide) (by decide) R.nodes
    shown := row (by decide) (by decide) R.shown
    free := row (by decide) (by decide) R.free
    uniq := (R.uniq.kp hk (row_map R.order R.uniq)).kp (Kp.setCell _ _) (fun x => R.map_ne R.uniq x)
    memo := (R.memo.kp hk (row_map R.order R.memo)).kp (Kp.setCell _ _) (fun x => R.map_ne R.memo x)
    ne := R.ne }

theorem Raw.pushLevel {w' : World} {v : Value} (R : Raw w p L order level nodes shown free U F) (hk : Kp (fun k => L.sl.ownBlock = some k) w w') (level' : List Nat)
    (hn : w'.ownsRow 0 3 1 v level'.length (level'.map natV)) (hd : ∀ k, L.so.ownBlock = some k → L.sl.ownBlock ≠ some k) : Raw (w'.setCell ⟨p, 1, none⟩ v) p { L with sl := v } order level' nodes shown free U F := by
  have mg : w'.heap[p]? = _ := (hk.block p R.plt (R.row_mgr R.level (by decide))).trans R.mgr
  have np : v.ownBlock ≠ some p := fun e => by
    obtain ⟨c1, g1⟩ := ownsRow_block hn e
    rw [mg] at g1
    cases g1
  have row : ∀ {e s n u x}, e ≠ 3 → e ≠ 105 → w.ownsRow 0 e s u n x → (w'.setCell ⟨p, 1, none⟩ v).ownsRow 0 e s u n x := fun h1 h2 h =>
    ownsRow_set (ownsRow_kp h hk (fun k e x => row_ne h R.level h1 e x)) (R.row_mgr h h2)
  exact {
    mgr := by rw [setCell_heap mg]; rfl
    order := ownsRow_set (ownsRow_kp R.order hk hd) (R.row_mgr R.order (by decide))
    level := ownsRow_set hn np
    nodes := row (by decide) (by decide) R.nodes
    shown := row (by decide) (by decide) R.shown
    free := row (by decide) (by decide) R.free
    uniq := (R.uniq.kp hk (row_map R.level R.uniq)).kp (Kp.setCell _ _) (fun x => R.map_ne R.uniq x)
    memo := (R.memo.kp hk (row_map R.level R.memo)).kp (Kp.setCell _ _) (fun x => R.map_ne R.memo x)
    ne := R.ne }
end

/-- The state in the loop of 'New', behind k rounds. -/
structure NewJ (w : World) (p k : Nat) (wr : World) (L : Lay) : Prop where
  raw : Raw wr p L (List.range k) (List.range k) [(-1, 0, 0), (-1, 0, 0)] [true, true] [] (fun _ => none) (fun _ => none)
  kp : Kp No w wr
  own : ∀ x, L.at p x → w.heap.size ≤ x
  ap : ∀ x, L.so.ownBlock = some x → L.sl.ownBlock ≠ some x

def NewR (w : World) (p n gk : Nat) (s : Value) (wr : World) : Prop := ∃ k L, k + gk = n ∧ s = .int .i64 (k : Int) ∧ NewJ w p k wr L

def NewPost' (w : World) (n : Nat) (e : Ending) (w' : World) : Prop := ∃ p L, e = .returned (ptr p) ∧ Rep w' p (Mgr.new n) L ∧ Kp No w w' ∧ ∀ x, L.at p x → w.heap.size ≤ x

theorem NewJ.start (w : World) : NewJ w (w.heap.size + 5) 0
    ((((((w.alloc (.cells #[.int .i64 (-1), .int .i64 0, .int .i64 0, .int .i64 (-1), .int .i64 0, .int .i64 0] 107)).alloc (.cells #[.bool true, .bool true] 4)).alloc (.map #[] 0)).alloc (.map #[] 0)).alloc (.map #[] 0)).alloc
      (.cells #[.slice none 0 0, .slice none 0 0, .slice (some ⟨w.heap.size, 0, none⟩) 2 2, .slice (some ⟨w.heap.size + 1, 0, none⟩) 2 2, .slice none 0 0, .map (some (w.heap.size + 2)), .map (some (w.heap.size + 3)), .map (some (w.heap.size + 4))] 105))
    { so := .slice none 0 0, sl := .slice none 0 0, sn := .slice (some ⟨w.heap.size, 0, none⟩) 2 2, ss := .slice (some ⟨w.heap.size + 1, 0, none⟩) 2 2, sf := .slice none 0 0, bu := w.heap.size + 2, bm := w.heap.size + 3, bc := w.heap.size + 4 } := by
  refine ⟨⟨?_, World.ownsRow_nil _ _ _ _, World.ownsRow_nil _ _ _ _, ?_, ?_, World.ownsRow_nil _ _ _ _, ?_, ?_, by simp⟩, ?_, ?_, ?_⟩
  · have := heap_alloc_new (((((w.alloc (.cells #[.int .i64 (-1), .int .i64 0, .int .i64 0, .int .i64 (-1), .int .i64 0, .int .i64 0] 107)).alloc (.cells #[.bool true, .bool true] 4)).alloc (.map #[] 0)).alloc (.map #[] 0)).alloc (.map #[] 0))
      (.cells #[.slice none 0 0, .slice none 0 0, .slice (some ⟨w.heap.size, 0, none⟩) 2 2, .slice (some ⟨w.heap.size + 1, 0, none⟩) 2 2, .slice none 0 0, .map (some (w.heap.size + 2)), .map (some (w.heap.size + 3)), .map (some (w.heap.size + 4))] 105)
    simpa using this
  · refine ⟨rfl, .inr ⟨w.heap.size, 2, #[.int .i64 (-1), .int .i64 0, .int .i64 0, .int .i64 (-1), .int .i64 0, .int .i64 0], rfl, Nat.zero_le _, ?_, Nat.le_refl _, by simp [maxLen_val], rfl, rfl⟩⟩
    rw [Below.heap_alloc _ _ _ (by simp; omega), Below.heap_alloc _ _ _ (by simp; omega), Below.heap_alloc _ _ _ (by simp; omega), Below.heap_alloc _ _ _ (by simp; omega), Below.heap_alloc _ _ _ (by simp)]
    exact heap_alloc_new _ _
  · refine ⟨rfl, .inr ⟨w.heap.size + 1, 2, #[.bool true, .bool true], rfl, Nat.zero_le _, ?_, Nat.le_refl _, by simp [maxLen_val], rfl, rfl⟩⟩
    rw [Below.heap_alloc _ _ _ (by simp), Below.heap_alloc _ _ _ (by simp), Below.heap_alloc _ _ _ (by simp), Below.heap_alloc _ _ _ (by simp)]
    have := heap_alloc_new (w.alloc (.cells #[.int .i64 (-1), .int .i64 0, .int .i64 0, .int .i64 (-1), .int .i64 0, .int .i64 0] 107)) (.cells #[.bool true, .bool true] 4)
    simpa using this
  · have := MapAs.empty ((w.alloc (.cells #[.int .i64 (-1), .int .i64 0, .int .i64 0, .int .i64 (-1), .int .i64 0, .int .i64 0] 107)).alloc (.cells #[.bool true, .bool true] 4)) tripV natV
    refine MapAs.kp ?_ (Kp.alloc _) (fun x => x)
    refine MapAs.kp ?_ (Kp.alloc _) (fun x => x)
    refine MapAs.kp ?_ (Kp.alloc _) (fun x => x)
    simpa using this
  · have := MapAs.empty (((w.alloc (.cells #[.int .i64 (-1), .int .i64 0, .int .i64 0, .int .i64 (-1), .int .i64 0, .int .i64 0] 107)).alloc (.cells #[.bool true, .bool true] 4)).alloc (.map #[] 0)) tripV natV
    refine MapAs.kp ?_ (Kp.alloc _) (fun x => x)
    refine MapAs.kp ?_ (Kp.alloc _) (fun x => x)
    simpa using this
  · exact (((((Kp.alloc _).trans_no (Kp.alloc _)).trans_no (Kp.alloc _)).trans_no (Kp.alloc _)).trans_no (Kp.alloc _)).trans_no (Kp.alloc _)
  · intro x hx
    simp [Lay.at, Value.ownBlock] at hx
    omega
  · intro x hx
    simp [Value.ownBlock] at hx

theorem info_int : (Tryd.prog.info? 3).map (fun i => (i.zero, i.size, i.bytes)) = some (some (.int .i64 0), 1, 8) := by kernel_rfl

/-- 'New': the number of variables. -/
def nvars (v : Int) : Nat := if v < 0 then 0 else if 256 < v then 256 else v.toNat

theorem NewJ.order {w : World} {p k : Nat} {wr A w1 : World} {L : Lay} {g cap : Nat} (j : NewJ w p k wr L) (kA : Kp No wr A) (hs : A.heap.size = wr.heap.size + 1)
    (hown : w1.ownsRow 0 3 1 (.slice (some ⟨g, 0, none⟩) (k + 1) cap) (k + 1) ((List.range k).map natV ++ [.int .i64 (k : Int)])) (hgrow : A.grownBy w1 L.so.ownBlock) (hat : L.so.ownBlock = some g ∨ g = A.heap.size) :
    Raw (w1.setCell ⟨p, 0, none⟩ (.slice (some ⟨g, 0, none⟩) (k + 1) cap)) p { L with so := .slice (some ⟨g, 0, none⟩) (k + 1) cap } (List.range (k + 1)) (List.range k) [(-1, 0, 0), (-1, 0, 0)] [true, true] [] (fun _ => none) (fun _ => none) ∧
    Kp No w (w1.setCell ⟨p, 0, none⟩ (.slice (some ⟨g, 0, none⟩) (k + 1) cap)) ∧ w.heap.size ≤ g ∧ L.sl.ownBlock ≠ some g := by
  have kg : Kp (fun x => L.so.ownBlock = some x) wr w1 := grown_no kA hgrow
  have hsz := j.kp.size
  refine ⟨j.raw.pushOrder kg (List.range (k + 1)) ?_ (fun x h1 h2 => j.ap x h2 h1), ?_, ?_, ?_⟩
  · simpa [List.range_succ, natV] using hown
  · have k1 : Kp No w w1 := (j.kp.trans (A := No) (A' := No) (fun _ h => .inl h) (Kp.refl _ _)).trans (A := No) (A' := fun x => L.so.ownBlock = some x) (fun x h => .inr (j.own x (by simp [Lay.at, h]))) kg
    exact k1.trans (A' := fun x => x = p) (fun x h => .inr (j.own x (.inl h))) ((Kp.setCell _ _).mono (fun _ _ e => e))
  · rcases hat with h | h
    · exact j.own g (by simp [Lay.at, h])
    · omega
  · intro h
    rcases hat with h2 | h2
    · exact j.ap g h2 h
    · have := j.raw.lt g (by simp [Lay.at, h]); omega

theorem NewJ.level {w : World} {p k : Nat} {wr A w1 : World} {L : Lay} {g cap : Nat} (raw : Raw wr p L (List.range (k + 1)) (List.range k) [(-1, 0, 0), (-1, 0, 0)] [true, true] [] (fun _ => none) (fun _ => none)) (kp : Kp No w wr)
    (own : ∀ x, L.at p x → w.heap.size ≤ x) (ap : ∀ x, L.so.ownBlock = some x → L.sl.ownBlock ≠ some x) (kA : Kp No wr A) (hs : A.heap.size = wr.heap.size + 1)
    (hown : w1.ownsRow 0 3 1 (.slice (some ⟨g, 0, none⟩) (k + 1) cap) (k + 1) ((List.range k).map natV ++ [.int .i64 (k : Int)])) (hgrow : A.grownBy w1 L.sl.ownBlock) (hat : L.sl.ownBlock = some g ∨ g = A.heap.size) :
    NewJ w p (k + 1) (w1.setCell ⟨p, 1, none⟩ (.slice (some ⟨g, 0, none⟩) (k + 1) cap)) { L with sl := .slice (some ⟨g, 0, none⟩) (k + 1) cap } := by
  have kg : Kp (fun x => L.sl.ownBlock = some x) wr w1 := grown_no kA hgrow
  have hsz := kp.size
  have hg : w.heap.size ≤ g := by
    rcases hat with h | h
    · exact own g (by simp [Lay.at, h])
    · omega
  refine ⟨raw.pushLevel kg (List.range (k + 1)) ?_ ap, ?_, ?_, ?_⟩
  · simpa [List.range_succ, natV] using hown
  · have k1 : Kp No w w1 := kp.trans (A := No) (A' := fun x => L.sl.ownBlock = some x) (fun x h => .inr (own x (by simp [Lay.at, h]))) kg
    exact k1.trans (A' := fun x => x = p) (fun x h => .inr (own x (.inl h))) ((Kp.setCell _ _).mono (fun _ _ e => e))
  · intro x hx
    rcases hx with h | h | h | h | h | h | h | h
    · exact own x (.inl h)
    · exact own x (.inr (.inl h))
    · exact own x (.inr (.inr (.inl h)))
    · exact own x (by simp [Lay.at] at h ⊢; simp [h])
    · simp [Value.ownBlock] at h; omega
    · exact own x (by simp [Lay.at] at h ⊢; simp [h])
    · exact own x (by simp [Lay.at] at h ⊢; simp [h])
    · exact own x (by simp [Lay.at] at h ⊢; simp [h])
  · intro x h1 h2
    simp [Value.ownBlock] at h2
    subst h2
    simp only at h1
    rcases hat with h | h
    · exact ap _ h1 h
    · have := raw.lt g (by simp [Lay.at, h1]); omega

set_option maxRecDepth 100000 in
set_option maxHeartbeats 1000000 in
theorem New_ok (v : Int) (w : World) : Calls Tryd.prog 61 #[.int .i64 v] w (NewPost' w (nvars v)) := by
  obtain ⟨n, hn, hn2⟩ : ∃ n : Nat, n = nvars v ∧ n ≤ 256 := ⟨_, rfl, by unfold nvars; split; omega; split <;> omega⟩
  rw [← hn]
  have HN := Lib.hid hn
  clear hn
  have hmm := @run_makeMap Tryd.prog
  go_enter Tryd.func61, Tryd.ntmps61
  go_upto_region 1 with fail
  go_cut [3] (fun s x => s = .int .i64 (n : Int) ∧ x = w)
  case first =>
    by_cases h0 : v < 0
    · have E : Hid (n = 0) := Lib.hid (by rw [HN.out]; unfold nvars; rw [if_pos h0])
      have h0' : (0 : Int) > v := h0
      go_wp2
      go_meet
      case rel => exact ⟨by rw [E.out]; rfl, rfl⟩
    · by_cases h1 : 256 < v
      · have E : Hid (n = 256) := Lib.hid (by rw [HN.out]; unfold nvars; rw [if_neg h0, if_pos h1])
        have h2 : ¬ v < 0 := h0
        go_wp2
        go_meet
        case rel => exact ⟨by rw [E.out]; rfl, rfl⟩
      · have E : Hid ((n : Int) = v) := Lib.hid (by rw [HN.out]; unfold nvars; rw [if_neg h0, if_neg h1]; omega)
        go_wp2
        go_meet
        case rel => exact ⟨by rw [E.out], rfl⟩
  case rest =>
  obtain ⟨hs, hw⟩ := hcut
  replace hw := hw.symm
  subst hs hw
  go_wp2
  have J0 := NewJ.start w
  have HJ0 : NewR w (w.heap.size + 1 + 1 + 1 + 1 + 1) n n (.int .i64 0) _ := ⟨0, _, by omega, rfl, J0⟩
  have H0 := Lib.hid HJ0
  clear J0 HJ0 hmm
  generalize w.heap.size + 1 + 1 + 1 + 1 + 1 = p at *
  obtain ⟨i0, hi0, hz0, hz1, hz2⟩ := info_parts info_int
  go_loopg [19] n (fun gk s wr => NewR w p n gk s wr)
  case atStart => exact H0.out
  case round =>
    clear H0
    obtain ⟨k, L, hk, rfl, j⟩ := hrel
    by_cases hlt : k < n
    · have c0 := j.raw.c0
      have z0 := j.raw.fz 0
      have o0 := j.raw.order
      rw [List.length_range] at o0
      have plt := j.raw.plt
      have hb1 : ∀ x, L.so.ownBlock = some x → x ≠ p := fun x hx e => j.raw.row_mgr j.raw.order (by decide) (e ▸ hx)
      have HJ := Lib.hid j
      have HB1 := Lib.hid hb1
      have HK := Lib.hid hk
      clear j hb1 hk
      have hlti : (k : Int) < n := by omega
      go_upto_region 7 with (at_builtin; refine wpList_append_lies _ rfl (.tmp 26) (.tmp 28) _ rfl 0 3 i0 _ 1 8 Tryd.underlying26 hi0 hz0 hz1 hz2 rfl (by omega) L.so k ((List.range k).map natV) rfl (o0.alloc _) ⟨wr.heap.size, 0, none⟩ 1 1 [.int .i64 (k : Int)] rfl rfl (World.news_of_block (heap_alloc_new _ _)) (by simp [Value.oneCell']) (by omega) (by unfold maxLen; omega) (by omega) (by omega) (wr.heap.size + 1) (by simp) ?_; intro g cap w1 hown hgrow hat hlt2; have q2 : w1.cell? ⟨p, 0, none⟩ = some L.so := (hgrow.cell_far ⟨p, 0, none⟩ (by simp; omega) (fun e => HB1.out p e.symm rfl)).trans ((World.cell?_alloc_lt _ _ _ plt).trans c0); have q3 : w1.frozen? ⟨p, 0, none⟩ = false := (hgrow.frozen_far ⟨p, 0, none⟩ (by simp; omega) (fun e => HB1.out p e.symm rfl)).trans ((World.frozen?_alloc_old _ _ _ (by simp; omega)).trans z0))
      obtain ⟨rawB, kpB, hg, hgl⟩ := HJ.out.order (Kp.alloc _) (by simp) hown hgrow (by simpa using hat)
      have ownB : ∀ x, Lay.at { L with so := .slice (some ⟨g, 0, none⟩) (k + 1) cap } p x → w.heap.size ≤ x := fun x hx => by
        rcases hx with h | h | h | h | h
        · exact HJ.out.own x (.inl h)
        · exact HJ.out.own x (.inr (.inl h))
        · exact HJ.out.own x (.inr (.inr (.inl h)))
        · simp [Value.ownBlock] at h; omega
        · exact HJ.out.own x (.inr (.inr (.inr (.inr h))))
      have apB : ∀ x, (Lay.so { L with so := .slice (some ⟨g, 0, none⟩) (k + 1) cap }).ownBlock = some x → (Lay.sl { L with so := .slice (some ⟨g, 0, none⟩) (k + 1) cap }).ownBlock ≠ some x := fun x hx => by
        simp [Value.ownBlock] at hx; subst hx; exact hgl
      clear hown hgrow hat hlt2 q2 q3 c0 z0 o0 plt HB1 HJ hg hgl
      generalize (w1.setCell ⟨p, 0, none⟩ (.slice (some ⟨g, 0, none⟩) (k + 1) cap)) = WB at *
      have HSL : Hid ({ L with so := Value.slice (some ⟨g, 0, none⟩) (k + 1) cap } = { L with so := Value.slice (some ⟨g, 0, none⟩) (k + 1) cap }) := rfl
      generalize { L with so := Value.slice (some ⟨g, 0, none⟩) (k + 1) cap } = LB at *
      clear HSL
      have c1 := rawB.c1
      have z1 := rawB.fz 1
      have o1 := rawB.level
      rw [List.length_range] at o1
      have pltB := rawB.plt
      have hb1 : ∀ x, LB.sl.ownBlock = some x → x ≠ p := fun x hx e => rawB.row_mgr rawB.level (by decide) (e ▸ hx)
      have RB := Lib.hid rawB
      have KB := Lib.hid kpB
      have OB := Lib.hid ownB
      have AB := Lib.hid apB
      have HB1 := Lib.hid hb1
      clear rawB kpB ownB apB hb1
      go_upto_region 8 with (at_builtin; refine wpList_append_lies _ rfl (.tmp 36) (.tmp 38) _ rfl 0 3 i0 _ 1 8 Tryd.underlying26 hi0 hz0 hz1 hz2 rfl (by omega) LB.sl k ((List.range k).map natV) rfl (o1.alloc _) ⟨WB.heap.size, 0, none⟩ 1 1 [.int .i64 (k : Int)] rfl rfl (World.news_of_block (heap_alloc_new _ _)) (by simp [Value.oneCell']) (by omega) (by unfold maxLen; omega) (by omega) (by omega) (WB.heap.size + 1) (by simp) ?_; intro g' cap' w2 hown hgrow hat hlt2; have q2 : w2.cell? ⟨p, 1, none⟩ = some LB.sl := (hgrow.cell_far ⟨p, 1, none⟩ (by simp; omega) (fun e => HB1.out p e.symm rfl)).trans ((World.cell?_alloc_lt _ _ _ pltB).trans c1); have q3 : w2.frozen? ⟨p, 1, none⟩ = false := (hgrow.frozen_far ⟨p, 1, none⟩ (by simp; omega) (fun e => HB1.out p e.symm rfl)).trans ((World.frozen?_alloc_old _ _ _ (by simp; omega)).trans z1))
      have JN := Lib.hid (NewJ.level RB.out KB.out OB.out AB.out (Kp.alloc _) (by simp) hown hgrow (by simpa using hat))
      clear hown hgrow hat hlt2 q2 q3 c1 z1 o1 pltB HB1 RB KB OB AB
      go_wp2
      go_roundg (n - (k + 1))
      case measure => have := HK.out; omega
      case rel => exact ⟨k + 1, _, by omega, by go_num, JN.out⟩
    · have hkn : k = n := by omega
      have FIN : Hid (NewPost' w n (.returned (ptr p)) wr) := Lib.hid (by
        subst hkn
        refine ⟨p, L, rfl, ⟨⟨fun _ => none, ?_, fun x r h => by cases h⟩, Mgr.new_wf k⟩, j.kp, j.own⟩
        rw [Mgr.new_uq k]
        exact j.raw)
      have hlti : ¬ (k : Int) < n := by omega
      have hltd : decide ((k : Int) < (n : Int)) = false := by simp; omega
      clear j hkn hk hlt
      go_wp2
      go_ret
      exact FIN.out

end Go.Proofs.YtgglkldoclejaaaDoor
