/-
  Walks: 'index', which makes the tables anew that depend on the nodes.
-/
import Derived.Test.YtngbodmooddjbaaRb
import Derived.Deep.QuietTactic
import Derived.BigQuiet
namespace Go.Proofs.Ytngbodmooddjbaa
open Go.RowKit

def trN (x : Nd) : Trip := (x.1, (x.2.1 : Int), (x.2.2 : Int))
theorem uq_some {M : Mgr} (h : M.WF) {x : Trip} {r : Nat} : M.uq x = some r ↔ r < M.nodes.length ∧ 2 ≤ r ∧ (M.nd r).1 ≠ -1 ∧ x = trN (M.nd r) := by
  unfold Mgr.uq
  by_cases h0 : 0 ≤ x.1 ∧ 0 ≤ x.2.1 ∧ 0 ≤ x.2.2
  · rw [if_pos h0]
    constructor
    · intro hf
      obtain ⟨h1, h2, h3⟩ := Mgr.find_some hf
      refine ⟨h2, h1, by rw [h3]; show x.1 ≠ -1; omega, ?_⟩
      rw [h3]
      unfold trN
      refine Prod.ext rfl (Prod.ext ?_ ?_)
      · show x.2.1 = ((x.2.1.toNat : Nat) : Int); omega
      · show x.2.2 = ((x.2.2.toNat : Nat) : Int); omega
    · rintro ⟨h1, h2, h3, rfl⟩
      have e : ((trN (M.nd r)).1, (trN (M.nd r)).2.1.toNat, (trN (M.nd r)).2.2.toNat) = M.nd r := rfl
      rw [e]
      exact Mgr.find_eq h h2 (.inr ⟨h1, h3⟩)
  · rw [if_neg h0]
    constructor
    · intro hf; cases hf
    · rintro ⟨h1, h2, h3, rfl⟩
      exact (h0 ⟨(h.node r h2 h1 h3).1, Int.natCast_nonneg _, Int.natCast_nonneg _⟩).elim

/-- What 'unique' holds when the last j nodes are in it. -/
def UqJ (l : List Nd) (j : Nat) (U : Trip → Option Nat) : Prop := ∀ x r, U x = some r ↔ r < l.length ∧ l.length ≤ r + j ∧ (l.getD r (-1, 0, 0)).1 ≠ -1 ∧ x = trN (l.getD r (-1, 0, 0))
theorem UqJ.zero (l : List Nd) : UqJ l 0 (fun _ => none) := fun _ _ => ⟨fun h => (by cases h), fun h => (by omega)⟩
theorem UqJ.skip {l : List Nd} {j : Nat} {U : Trip → Option Nat} (h : UqJ l j U) (hj : j < l.length) (hv : (l.getD (l.length - 1 - j) (-1, 0, 0)).1 = -1) : UqJ l (j + 1) U := fun x r => by
  rw [h x r]
  constructor
  · rintro ⟨h1, h2, h3, h4⟩; exact ⟨h1, by omega, h3, h4⟩
  · rintro ⟨h1, h2, h3, h4⟩
    refine ⟨h1, ?_, h3, h4⟩
    by_cases e : r = l.length - 1 - j
    · rw [e] at h3; exact (h3 hv).elim
    · omega
theorem UqJ.push {l : List Nd} {j : Nat} {U : Trip → Option Nat} (h : UqJ l j U) (hj : j + 2 < l.length) (hv : (l.getD (l.length - 1 - j) (-1, 0, 0)).1 ≠ -1)
    (inj : ∀ f g, 2 ≤ f → 2 ≤ g → f < l.length → g < l.length → l.getD f (-1, 0, 0) = l.getD g (-1, 0, 0) → (l.getD f (-1, 0, 0)).1 ≠ -1 → f = g) : UqJ l (j + 1) (fun x => if x = trN (l.getD (l.length - 1 - j) (-1, 0, 0)) then some (l.length - 1 - j) else U x) := fun x r => by
  by_cases e : x = trN (l.getD (l.length - 1 - j) (-1, 0, 0))
  · simp only [if_pos e]
    constructor
    · intro hr
      injection hr with hr
      subst hr
      exact ⟨by omega, by omega, hv, e⟩
    · rintro ⟨h1, h2, h3, h4⟩
      congr 1
      refine inj _ _ (by omega) (by omega) (by omega) h1 ?_ hv
      rw [e] at h4
      unfold trN at h4
      injection h4 with q1 q2
      injection q2 with q2 q3
      exact Prod.ext q1 (Prod.ext (Int.ofNat.inj q2) (Int.ofNat.inj q3))
  · simp only [if_neg e]
    rw [h x r]
    constructor
    · rintro ⟨h1, h2, h3, h4⟩; exact ⟨h1, by omega, h3, h4⟩
    · rintro ⟨h1, h2, h3, h4⟩
      refine ⟨h1, ?_, h3, h4⟩
      by_cases e2 : r = l.length - 1 - j
      · subst e2; exact (e h4).elim
      · omega
theorem UqJ.done {M : Mgr} (h : M.WF) {U : Trip → Option Nat} (u : UqJ M.nodes (M.nodes.length - 2) U) (x : Trip) : U x = M.uq x := by
  have two := h.two
  apply Option.ext
  intro r
  rw [uq_some h, u x r]
  constructor
  · rintro ⟨h1, h2, h3, h4⟩; exact ⟨h1, by omega, h3, h4⟩
  · rintro ⟨h1, h2, h3, h4⟩; exact ⟨h1, by omega, h3, h4⟩

section
variable {w : World} {p : Nat} {L : Lay} {order level : List Nat} {nodes : List Nd} {shown : List Bool} {free : List Nat} {U F : Trip → Option Nat}
/-- The field 'unique' is set to another map. -/
theorem Raw.setUq {b : Nat} {U' : Trip → Option Nat} (R : Raw w p L order level nodes shown free U F) (h : MapAs w b tripV natV U') (hb : b ≠ L.bm) :
    Raw (w.setCell ⟨p, 5, none⟩ (.map (some b))) p { L with bu := b } order level nodes shown free U' F where
  mgr := by rw [setCell_heap R.mgr]; rfl
  order := ownsRow_set R.order (R.row_mgr R.order (by decide))
  level := ownsRow_set R.level (R.row_mgr R.level (by decide))
  nodes := ownsRow_set R.nodes (R.row_mgr R.nodes (by decide))
  shown := ownsRow_set R.shown (R.row_mgr R.shown (by decide))
  free := ownsRow_set R.free (R.row_mgr R.free (by decide))
  uniq := h.kp (Kp.setCell _ _) (fun x => R.map_ne h x)
  memo := R.memo.kp (Kp.setCell _ _) (fun x => R.map_ne R.memo x)
  ne := hb
/-- An append to 'free', the field set behind it. -/
theorem Raw.pushFree {w' : World} {v : Value} (R : Raw w p L order level nodes shown free U F) (hk : Kp (fun k => L.sf.ownBlock = some k) w w') (free' : List Nat)
    (hn : w'.ownsRow 0 27 1 v free'.length (free'.map natV)) : Raw (w'.setCell ⟨p, 4, none⟩ v) p { L with sf := v } order level nodes shown free' U F := by
  have mg : w'.heap[p]? = _ := (hk.block p R.plt (R.row_mgr R.free (by decide))).trans R.mgr
  have np : v.ownBlock ≠ some p := fun e => by
    obtain ⟨c1, g1⟩ := ownsRow_block hn e
    rw [mg] at g1
    cases g1
  have row : ∀ {e s n u x}, e ≠ 27 → e ≠ 95 → w.ownsRow 0 e s u n x → (w'.setCell ⟨p, 4, none⟩ v).ownsRow 0 e s u n x := fun h1 h2 h =>
    ownsRow_set (ownsRow_kp h hk (fun k e x => row_ne h R.free h1 e x)) (R.row_mgr h h2)
  exact {
    mgr := by rw [setCell_heap mg]; rfl
    order := row (by decide) (by decide) R.order
    level := row (by decide) (by decide) R.level
    nodes := row (by decide) (by decide) R.nodes
    shown := row (by decide) (by decide) R.shown
    free := ownsRow_set hn np
    uniq := (R.uniq.kp hk (row_map R.free R.uniq)).kp (Kp.setCell _ _) (fun x => R.map_ne R.uniq x)
    memo := (R.memo.kp hk (row_map R.free R.memo)).kp (Kp.setCell _ _) (fun x => R.map_ne R.memo x)
    ne := R.ne }
end

/-- The state while 'index' goes over the nodes: the last j are done. -/
structure IxS (w : World) (p : Nat) (L : Lay) (order level : List Nat) (nodes : List Nd) (shown : List Bool) (j : Nat) (x : World) (L1 : Lay) (U : Trip → Option Nat) : Prop where
  raw : Raw x p L1 order level nodes shown (Mgr.frD nodes j) U (fun _ => none)
  uq : UqJ nodes j U
  kp : Kp (L.at p) w x
  fr : Fresh (L.at p) (L1.at p) w
theorem info_ref0 : (Try.prog.info? 27).map (fun i => (i.zero, i.size, i.bytes)) = some (some (.int .i64 0), 1, 8) := by kernel_rfl
def IxR (w : World) (p : Nat) (L : Lay) (order level : List Nat) (nodes : List Nd) (shown : List Bool) (gk : Nat) (s2 : Value) (x : World) : Prop :=
  ∃ j f L1 U, j + gk = nodes.length - 2 ∧ f + j + 1 = nodes.length ∧ s2 = .int .i64 (f : Int) ∧ IxS w p L order level nodes shown j x L1 U

set_option maxRecDepth 100000 in
set_option maxHeartbeats 4000000 in
theorem index_ok {w : World} {p : Nat} {L : Lay} {M : Mgr} {free : List Nat} {U F : Trip → Option Nat} (wf : M.WF) (hfree : M.free = Mgr.freeN M.nodes) (raw : Raw w p L M.order M.level M.nodes M.shown free U F) (hb : M.nodes.length ≤ 10000000000000) :
    Calls Try.prog 128 #[ptr p] w fun e w' => e = .returned (.tuple #[]) ∧ ∃ L', Rep w' p M L' ∧ Kp (L.at p) w w' ∧ Fresh (L.at p) (L'.at p) w := by
  have hmm := @run_makeMap Try.prog
  have c5 := raw.c5
  have c6 := raw.c6
  have c4 := raw.c4
  have c2 := raw.c2
  have z4 := raw.fz 4
  have z5 := raw.fz 5
  have z6 := raw.fz 6
  have plt := raw.plt
  have two := wf.two
  obtain ⟨bn, cn, hsn, _⟩ := ownsRow_open raw.nodes (by omega)
  have HSN := Lib.hid hsn
  rw [hsn] at c2
  have WF := Lib.hid wf
  have hnl : M.nodes.length ≤ 9223372036854775807 := by omega
  have ST : Hid (IxS w p L M.order M.level M.nodes M.shown 0 (((((w.setCell ⟨p, 5, none⟩ (.map (some w.heap.size))).setCell ⟨p, 6, none⟩ (.map (some (w.heap.size + 1)))).setCell ⟨p, 4, none⟩ (.slice none 0 0)).alloc (.map #[] 0)).alloc (.map #[] 0)) { L with bu := w.heap.size, bm := w.heap.size + 1, sf := .slice none 0 0 } (fun _ => none)) := Lib.hid (by
    have R1 := (raw.no (Kp.alloc (.map #[] 0))).setUq (MapAs.empty w tripV natV) (fun e => by have := raw.memo.lt; omega)
    have R2 := (R1.no (Kp.alloc (.map #[] 0))).setMemo (MapAs.empty _ tripV natV) (fun e => by simp [World.setCell] at e)
    have R3 := R2.setFree (free' := []) (World.ownsRow_nil _ _ _ _)
    have hz : ((w.alloc (.map #[] 0)).setCell ⟨p, 5, none⟩ (.map (some w.heap.size))).heap.size = w.heap.size + 1 := by simp [World.setCell]
    rw [hz] at R3
    have e : ((((w.alloc (.map #[] 0)).setCell ⟨p, 5, none⟩ (.map (some w.heap.size))).alloc (.map #[] 0)).setCell ⟨p, 6, none⟩ (.map (some (w.heap.size + 1)))).setCell ⟨p, 4, none⟩ (.slice none 0 0) = (((((w.setCell ⟨p, 5, none⟩ (.map (some w.heap.size))).setCell ⟨p, 6, none⟩ (.map (some (w.heap.size + 1)))).setCell ⟨p, 4, none⟩ (.slice none 0 0)).alloc (.map #[] 0)).alloc (.map #[] 0)) := by
      have s0 : p < (w.setCell ⟨p, 5, none⟩ (.map (some w.heap.size))).heap.size := by simp [World.setCell]; exact plt
      have s1 : p < ((w.setCell ⟨p, 5, none⟩ (.map (some w.heap.size))).alloc (.map #[] 0)).heap.size := by simp [World.setCell]; omega
      have s2 : p < ((w.setCell ⟨p, 5, none⟩ (.map (some w.heap.size))).setCell ⟨p, 6, none⟩ (.map (some (w.heap.size + 1)))).heap.size := by simp [World.setCell]; exact plt
      have s3 : p < (((w.setCell ⟨p, 5, none⟩ (.map (some w.heap.size))).setCell ⟨p, 6, none⟩ (.map (some (w.heap.size + 1)))).alloc (.map #[] 0)).heap.size := by simp [World.setCell]; omega
      rw [setCell_alloc_comm plt, setCell_alloc_comm s1, setCell_alloc_comm s0, setCell_alloc_comm s3, setCell_alloc_comm s2]
    rw [e] at R3
    have kp : Kp (L.at p) w (((((w.setCell ⟨p, 5, none⟩ (.map (some w.heap.size))).setCell ⟨p, 6, none⟩ (.map (some (w.heap.size + 1)))).setCell ⟨p, 4, none⟩ (.slice none 0 0)).alloc (.map #[] 0)).alloc (.map #[] 0)) :=
      (((((Kp.setCell _ _).mono (fun k _ e => .inl e)).trans (A' := L.at p) (fun k h => .inl h) ((Kp.setCell _ _).mono (fun k _ e => .inl e))).trans (A' := L.at p) (fun k h => .inl h) ((Kp.setCell _ _).mono (fun k _ e => .inl e))).trans_no (Kp.alloc _)).trans_no (Kp.alloc _)
    refine ⟨R3, UqJ.zero _, kp, fun k hk => ?_⟩
    rcases hk with h | h | h | h | h | h | h | h
    · exact .inl (.inl h)
    · right; simp at h; omega
    · right; simp at h; omega
    · exact .inl (by simp [Lay.at] at h ⊢; simp [h])
    · exact .inl (by simp [Lay.at] at h ⊢; simp [h])
    · exact .inl (by simp [Lay.at] at h ⊢; simp [h])
    · exact .inl (by simp [Lay.at] at h ⊢; simp [h])
    · simp [Value.ownBlock] at h)
  obtain ⟨i0, hi0, hz0, hz1, hz2⟩ := info_parts info_ref0
  clear raw wf hsn
  go_enter Try.func128, Try.ntmps128
  go_wp2_with fail
  clear hmm c5 c6 c4 c2 z4 z5 z6 plt
  have START : Hid (IxR w p L M.order M.level M.nodes M.shown (M.nodes.length - 2) (.int .i64 ((M.nodes.length : Int) - 1)) (((((w.setCell ⟨p, 5, none⟩ (.map (some w.heap.size))).setCell ⟨p, 6, none⟩ (.map (some (w.heap.size + 1)))).setCell ⟨p, 4, none⟩ (.slice none 0 0)).alloc (.map #[] 0)).alloc (.map #[] 0))) := Lib.hid ⟨0, M.nodes.length - 1, _, _, by omega, by omega, by congr 1; omega, ST.out⟩
  clear ST
  go_loopg [2] (M.nodes.length - 2) (fun gk s2 x => IxR w p L M.order M.level M.nodes M.shown gk s2 x)
  case atStart => exact START.out
  case round =>
    clear START
    obtain ⟨j, f, L1, U1, hj, hfj, rfl, S⟩ := hrel
    have HJ := Lib.hid hj
    have HFJ := Lib.hid hfj
    have SS := Lib.hid S
    have raw1 := S.raw
    by_cases hlt : 2 ≤ f
    · have hge : (2 : Int) ≤ (f : Int) := by omega
      have hfl : f < M.nodes.length := by omega
      have hfli : (f : Int) < M.nodes.length := by omega
      obtain ⟨b1, n1, hsn1, hn1, hn2, _, hcell, _⟩ := ownsRow_open raw1.nodes (by omega)
      have hg := nd_get hfl
      have d0 := hcell _ _ (ndCells_get _ f 0 _ hg (by omega))
      have d1 := hcell _ _ (ndCells_get _ f 1 _ hg (by omega))
      have d2 := hcell _ _ (ndCells_get _ f 2 _ hg (by omega))
      have c2 := raw1.c2
      rw [hsn1] at c2
      have plt := raw1.plt
      have e1 : M.nodes.length - 1 - j = f := by omega
      have E1 := Lib.hid e1
      have hx : M.nodes.getD f (-1, 0, 0) = M.nd f := rfl
      have HX := Lib.hid hx
      have hl1 : b1 < wr.heap.size := World.block_lt_of_cell? _ _ d0
      clear hcell hg hsn1 hn1 hn2 S raw1 e1 hx hj hfj
      obtain ⟨nd, hnd⟩ : ∃ nd, M.nd f = nd := ⟨_, rfl⟩
      have HND := Lib.hid hnd
      rw [hnd] at d0 d1 d2
      obtain ⟨v, lo, hi⟩ := nd
      simp only at d0 d1 d2
      simp only [Nat.add_zero] at d0
      clear hnd
      go_upto_region 7 with fail
      have KB : Hid (Kp No wr (wr.alloc (.cells #[.int .i64 v, .int .i64 (lo : Int), .int .i64 (hi : Int)] 89))) := Lib.hid (Kp.alloc _)
      have hbx : (wr.alloc (.cells #[.int .i64 v, .int .i64 (lo : Int), .int .i64 (hi : Int)] 89)).heap[wr.heap.size]? = some (.cells #[.int .i64 v, .int .i64 (lo : Int), .int .i64 (hi : Int)] 89 (0, 0)) := heap_alloc_new _ _
      clear d0 d1 d2 c2 hl1 plt
      generalize (wr.alloc (.cells #[.int .i64 v, .int .i64 (lo : Int), .int .i64 (hi : Int)] 89)) = wb at *
      generalize wr.heap.size = B at *
      have e0 : wb.cell? ⟨B, 0, none⟩ = some (.int .i64 v) := by simp [World.cell?, hbx]
      have e1 : wb.cell? ⟨B, 1, none⟩ = some (.int .i64 (lo : Int)) := by simp [World.cell?, hbx]
      have e2 : wb.cell? ⟨B, 2, none⟩ = some (.int .i64 (hi : Int)) := by simp [World.cell?, hbx]
      have hB := heap_lt hbx
      have RB := Lib.hid (SS.out.raw.no KB.out)
      have KPB := Lib.hid (SS.out.kp.trans_no KB.out)
      have c4 := RB.out.c4
      have c5 := RB.out.c5
      have z4 := RB.out.fz 4
      have plt := RB.out.plt
      clear hbx
      by_cases hv : v = -1
      · subst hv
        have FR : Hid (Mgr.frD M.nodes (j + 1) = Mgr.frD M.nodes j ++ [f]) := Lib.hid (by
          simp only [Mgr.frD]
          rw [E1.out, HX.out, HND.out, if_pos rfl])
        have UJ := Lib.hid (SS.out.uq.skip (by have := HFJ.out; omega) (by rw [E1.out, HX.out, HND.out]))
        have hln : (Mgr.frD M.nodes j).length ≤ 10000000000000 := by have := Mgr.frD_len (l := M.nodes) j; have := HFJ.out; omega
        have hpf : ¬ L1.sf.ownBlock = some p := RB.out.row_mgr RB.out.free (by decide)
        have own := RB.out.free
        obtain ⟨af, cf, hsf, _⟩ := ownsRow_len own
        rw [hsf] at own c4
        have HSF := Lib.hid hsf
        rw [hsf] at hpf
        go_wp2_with (at_builtin; refine wpList_append_lies _ rfl (.tmp 39) (.tmp 41) _ rfl 0 27 i0 _ 1 8 Try.underlying38 hi0 hz0 hz1 hz2 rfl (by omega) (.slice af (Mgr.frD M.nodes j).length cf) (Mgr.frD M.nodes j).length ((Mgr.frD M.nodes j).map natV) rfl (own.alloc _) ⟨wb.heap.size, 0, none⟩ 1 1 [.int .i64 (f : Int)] rfl rfl (World.news_of_block (heap_alloc_new _ _)) (by simp [Value.oneCell']) (by omega) (by unfold maxLen; omega) (by omega) (by omega) (wb.heap.size + 1) (by simp) ?_; intro g cap w1 hown hgrow hat hlt2; have q2 : w1.cell? ⟨p, 4, none⟩ = some (.slice af (Mgr.frD M.nodes j).length cf) := (hgrow.cell_far ⟨p, 4, none⟩ (by simp; omega) (fun e => hpf e.symm)).trans ((World.cell?_alloc_lt _ _ _ plt).trans c4); have q3 : w1.frozen? ⟨p, 4, none⟩ = false := (hgrow.frozen_far ⟨p, 4, none⟩ (by simp; omega) (fun e => hpf e.symm)).trans ((World.frozen?_alloc_old _ _ _ (by simp; omega)).trans z4))
        have JN : Hid (IxR w p L M.order M.level M.nodes M.shown (M.nodes.length - 2 - (j + 1)) (.int .i64 ((f - 1 : Nat) : Int)) (w1.setCell ⟨p, 4, none⟩ (.slice (some ⟨g, 0, none⟩) ((Mgr.frD M.nodes j).length + 1) cap))) := Lib.hid (by
          have kg : Kp (fun k => L1.sf.ownBlock = some k) wb w1 := by rw [HSF.out]; exact grown_no (Kp.alloc _) hgrow
          rw [← HSF.out] at hat
          have k1 : Kp (L1.at p) wb w1 := kg.mono (fun k _ e => by simp [Lay.at, e])
          have R2 := RB.out.pushFree (v := .slice (some ⟨g, 0, none⟩) ((Mgr.frD M.nodes j).length + 1) cap) kg (Mgr.frD M.nodes (j + 1)) (by rw [FR.out, List.length_append, List.map_append]; exact hown)
          refine ⟨j + 1, f - 1, _, U1, by have := HJ.out; have := HFJ.out; omega, by have := HFJ.out; omega, rfl, R2, UJ.out, (KPB.out.trans (A' := L1.at p) SS.out.fr k1).trans (A' := L1.at p) SS.out.fr ((Kp.setCell _ _).mono (fun k _ e => .inl e)), fun k hk => ?_⟩
          rcases hk with h | h | h | h | h | h | h | h
          · exact .inl (.inl h)
          · exact SS.out.fr k (.inr (.inl h))
          · exact SS.out.fr k (.inr (.inr (.inl h)))
          · exact SS.out.fr k (by simp [Lay.at] at h ⊢; simp [h])
          · exact SS.out.fr k (by simp [Lay.at] at h ⊢; simp [h])
          · exact SS.out.fr k (by simp [Lay.at] at h ⊢; simp [h])
          · exact SS.out.fr k (by simp [Lay.at] at h ⊢; simp [h])
          · have hg : g = k := by simpa [Value.ownBlock] using h
            rcases hat with hat | hat
            · exact SS.out.fr k (by simp [Lay.at, hat, hg])
            · right
              have := KPB.out.size
              omega)
        have hf1 : (f : Int) - 1 = ((f - 1 : Nat) : Int) := by omega
        clear hown hgrow hat hlt2 q2 q3 own
        go_wp2_with fail
        go_roundg (M.nodes.length - 2 - (j + 1))
        case measure => have := HJ.out; have := HFJ.out; omega
        case rel => first | exact JN.out | (rw [hf1]; exact JN.out)
      · have hvb : (v == -1) = false := by simpa using hv
        have FR : Hid (Mgr.frD M.nodes (j + 1) = Mgr.frD M.nodes j) := Lib.hid (by
          simp only [Mgr.frD]
          rw [E1.out, HX.out, HND.out, if_neg hv, List.append_nil])
        have UJ := Lib.hid (SS.out.uq.push (by have := HFJ.out; omega) (by rw [E1.out, HX.out, HND.out]; exact hv) WF.out.inj)
        rw [E1.out, HX.out, HND.out] at UJ
        obtain ⟨w3, hupd, hmap, hk3, _⟩ := RB.out.uniq.update keyNode Try.underlying91 (v, (lo : Int), (hi : Int)) f
        have up : (Instr.mapUpdate 91 (.map (some L1.bu)) (.agg #[.int .i64 v, .int .i64 (lo : Int), .int .i64 (hi : Int)]) (.int .i64 (f : Int))).run Try.prog wb.drew = .ok () w3.drew := hupd 1
        have JN : Hid (IxR w p L M.order M.level M.nodes M.shown (M.nodes.length - 2 - (j + 1)) (.int .i64 ((f - 1 : Nat) : Int)) w3.drew) := Lib.hid (by
          have R2 := (RB.out.setUniq hmap hk3).no Kp.drew
          rw [← FR.out] at R2
          exact ⟨j + 1, f - 1, _, _, by have := HJ.out; have := HFJ.out; omega, by have := HFJ.out; omega, rfl, R2, UJ.out, (KPB.out.trans (A' := L1.at p) SS.out.fr (hk3.mono (fun k _ e => .inr (.inl e)))).trans_no Kp.drew, SS.out.fr⟩)
        have hf1 : (f : Int) - 1 = ((f - 1 : Nat) : Int) := by omega
        clear hupd hmap hk3
        go_upto_region 9 with fail
        go_region
        go_wp2_with fail
        go_roundg (M.nodes.length - 2 - (j + 1))
        case measure => have := HJ.out; have := HFJ.out; omega
        case rel => first | exact JN.out | (rw [hf1]; exact JN.out)
    · obtain rfl : f = 1 := by omega
      have FIN : Hid (∃ L', Rep wr p M L' ∧ Kp (L.at p) w wr ∧ Fresh (L.at p) (L'.at p) w) := Lib.hid (by
        have ej : j = M.nodes.length - 2 := by omega
        have R := SS.out.raw
        have u := SS.out.uq
        rw [ej] at R u
        rw [show U1 = M.uq from funext fun x => u.done WF.out x, show Mgr.frD M.nodes (M.nodes.length - 2) = M.free from hfree.symm] at R
        exact ⟨L1, ⟨⟨_, R, fun x r h => by cases h⟩, WF.out⟩, SS.out.kp, SS.out.fr⟩)
      clear S SS raw1 hj hfj
      go_wp2_with fail
      go_end0
      exact ⟨rfl, FIN.out⟩

end Go.Proofs.Ytngbodmooddjbaa
