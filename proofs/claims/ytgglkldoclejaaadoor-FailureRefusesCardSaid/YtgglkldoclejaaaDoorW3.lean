/-
  Walks: 'node' of the package bdd, where the node is made.
-/
import Derived.Test.YtgglkldoclejaaaDoorW2
namespace Go.Proofs.YtgglkldoclejaaaDoor
open Go.RowKit

/-- What 'node' does if the node is not there, and none is free. -/
def NewPost (p : Nat) (L : Lay) (order level : List Nat) (nodes : List Nd) (shown : List Bool) (U F : Trip → Option Nat) (v lo hi : Nat) (w : World) (e : Ending) (w' : World) : Prop :=
  ∃ L', e = .returned (.int .i64 nodes.length) ∧ Raw w' p L' order level (nodes ++ [((v : Int), lo, hi)]) (shown ++ [false]) [] (fun x => if x = ((v : Int), (lo : Int), (hi : Int)) then some nodes.length else U x) F ∧
    Kp (L.at p) w w' ∧ Fresh (L.at p) (L'.at p) w

theorem grown_no {w w1 w' : World} {r : Option Nat} (h : Kp No w w1) (g : w1.grownBy w' r) : Kp (fun k => r = some k) w w' := h.no_trans (Kp.grown g)

/-- The store behind the append to 'nodes'. -/
def StB (p : Nat) (L : Lay) (order level : List Nat) (nodes : List Nd) (shown : List Bool) (U F : Trip → Option Nat) (v lo hi : Nat) (w : World) (B : Nat) (x : World) : Prop :=
  ∃ sn, Raw x p { L with sn := sn } order level (nodes ++ [((v : Int), lo, hi)]) shown [] U F ∧ Kp (L.at p) w x ∧ Fresh (L.at p) (Lay.at { L with sn := sn } p) w ∧
    x.heap[B]? = some (.cells #[.int .i64 v, .int .i64 lo, .int .i64 hi] 107 (0, 0))

theorem StB.mk {p : Nat} {L : Lay} {order level : List Nat} {nodes : List Nd} {shown : List Bool} {U F : Trip → Option Nat} {v lo hi : Nat} {w A A' w1 : World} {B g cap bn cn n : Nat}
    (raw : Raw A p L order level nodes shown [] U F) (hsn : L.sn = .slice (some ⟨bn, 0, none⟩) n cn) (kA : Kp No w A) (bA : A.heap[B]? = some (.cells #[.int .i64 v, .int .i64 lo, .int .i64 hi] 107 (0, 0)))
    (hB : w.heap.size = B) (kA' : Kp No A A') (hown : w1.ownsRow 0 107 3 (.slice (some ⟨g, 0, none⟩) (nodes.length + 1) cap) (nodes.length + 1) (nodes.flatMap ndCells ++ [.int .i64 v, .int .i64 lo, .int .i64 hi]))
    (hgrow : A'.grownBy w1 (Value.slice (some ⟨bn, 0, none⟩) n cn).ownBlock) (hat : (Value.slice (some ⟨bn, 0, none⟩) n cn).ownBlock = some g ∨ g = A.heap.size + 1) (hbn : bn < B) :
    StB p L order level nodes shown U F v lo hi w B (w1.setCell ⟨p, 2, none⟩ (.slice (some ⟨g, 0, none⟩) (nodes.length + 1) cap)) := by
  have kg : Kp (fun k => L.sn.ownBlock = some k) A w1 := by rw [hsn]; exact grown_no kA' hgrow
  have hp : p < w.heap.size ∨ w.heap.size ≤ p := by omega
  have k1 : Kp (L.at p) A w1 := kg.mono (fun k _ e => by simp [Lay.at, e])
  have hB' : B < A.heap.size := heap_lt bA
  refine ⟨_, raw.pushNodes kg (nodes ++ [((v : Int), lo, hi)]) ?_, ?_, ?_, ?_⟩
  · simpa [List.flatMap_append, ndCells] using hown
  · exact (kA.no_trans k1).trans (A' := L.at p) (fun k h => .inl h) ((Kp.setCell _ _).mono (fun k _ e => .inl e))
  · intro k hk
    rcases hk with h | h | h | h | h | h | h | h
    · exact .inl (.inl h)
    · exact .inl (.inr (.inl h))
    · exact .inl (.inr (.inr (.inl h)))
    · exact .inl (by simp [Lay.at] at h ⊢; simp [h])
    · exact .inl (by simp [Lay.at] at h ⊢; simp [h])
    · have hg : g = k := by simpa [Value.ownBlock] using h
      rcases hat with hat | hat
      · left
        have : L.sn.ownBlock = some k := by rw [hsn, ← hg]; exact hat
        simp [Lay.at, this]
      · right
        have := kA.size
        omega
    · exact .inl (by simp [Lay.at] at h ⊢; simp [h])
    · exact .inl (by simp [Lay.at] at h ⊢; simp [h])
  · have hpB : p ≠ B := fun e => by
      have := raw.mgr
      rw [e, bA] at this
      simp at this
    have h1 : w1.heap[B]? = A.heap[B]? := kg.block B hB' (fun e => by rw [hsn] at e; simp [Value.ownBlock] at e; omega)
    rw [Below.heap_setCell _ _ _ _ (Ne.symm hpB), h1]; exact bA

theorem StC.mk {p : Nat} {L : Lay} {order level : List Nat} {nodes : List Nd} {shown : List Bool} {U F : Trip → Option Nat} {v lo hi : Nat} {w A A' w1 : World} {B g cap bs cs n : Nat} {sn : Value}
    (raw : Raw A p { L with sn := sn } order level nodes shown [] U F) (hss : L.ss = .slice (some ⟨bs, 0, none⟩) n cs) (kA : Kp (L.at p) w A) (fr : Fresh (L.at p) (Lay.at { L with sn := sn } p) w) (bA : A.heap[B]? = some (.cells #[.int .i64 v, .int .i64 lo, .int .i64 hi] 107 (0, 0)))
    (hB : w.heap.size = B) (kA' : Kp No A A') (hown : w1.ownsRow 0 4 1 (.slice (some ⟨g, 0, none⟩) (shown.length + 1) cap) (shown.length + 1) (shown.map .bool ++ [.bool false]))
    (hgrow : A'.grownBy w1 (Value.slice (some ⟨bs, 0, none⟩) n cs).ownBlock) (hat : (Value.slice (some ⟨bs, 0, none⟩) n cs).ownBlock = some g ∨ g = A.heap.size + 1) (hbs : bs < B) :
    Raw (w1.setCell ⟨p, 3, none⟩ (.slice (some ⟨g, 0, none⟩) (shown.length + 1) cap)) p { L with sn := sn, ss := .slice (some ⟨g, 0, none⟩) (shown.length + 1) cap } order level nodes (shown ++ [false]) [] U F ∧
      Kp (L.at p) w (w1.setCell ⟨p, 3, none⟩ (.slice (some ⟨g, 0, none⟩) (shown.length + 1) cap)) ∧ Fresh (L.at p) (Lay.at { L with sn := sn, ss := .slice (some ⟨g, 0, none⟩) (shown.length + 1) cap } p) w ∧
      (w1.setCell ⟨p, 3, none⟩ (.slice (some ⟨g, 0, none⟩) (shown.length + 1) cap)).heap[B]? = some (.cells #[.int .i64 v, .int .i64 lo, .int .i64 hi] 107 (0, 0)) := by
  have kg : Kp (fun k => (Lay.ss { L with sn := sn }).ownBlock = some k) A w1 := by
    show Kp (fun k => L.ss.ownBlock = some k) A w1
    rw [hss]; exact grown_no kA' hgrow
  have k1 : Kp (L.at p) A w1 := kg.mono (fun k _ e => by simp at e; simp [Lay.at, e])
  have hB' : B < A.heap.size := heap_lt bA
  refine ⟨raw.pushShown kg (shown ++ [false]) ?_, ?_, ?_, ?_⟩
  · simpa using hown
  · exact (kA.trans (A' := L.at p) (fun k h => .inl h) k1).trans (A' := L.at p) (fun k h => .inl h) ((Kp.setCell _ _).mono (fun k _ e => .inl e))
  · intro k hk
    rcases hk with h | h | h | h | h | h | h | h
    · exact .inl (.inl h)
    · exact .inl (.inr (.inl h))
    · exact .inl (.inr (.inr (.inl h)))
    · exact fr k (by simp [Lay.at] at h ⊢; simp [h])
    · exact fr k (by simp [Lay.at] at h ⊢; simp [h])
    · exact fr k (by simp [Lay.at] at h ⊢; simp [h])
    · have hg : g = k := by simpa [Value.ownBlock] using h
      rcases hat with hat | hat
      · left
        have : L.ss.ownBlock = some k := by rw [hss, ← hg]; exact hat
        simp [Lay.at, this]
      · right
        have := kA.size
        omega
    · exact fr k (by simp [Lay.at] at h ⊢; simp [h])
  · have hpB : p ≠ B := fun e => by
      have := raw.mgr
      rw [e, bA] at this
      simp at this
    have h1 : w1.heap[B]? = A.heap[B]? := kg.block B hB' (fun e => by simp [hss, Value.ownBlock] at e; omega)
    rw [Below.heap_setCell _ _ _ _ (Ne.symm hpB), h1]; exact bA

set_option maxRecDepth 100000 in
set_option maxHeartbeats 1000000 in
theorem node_new {p : Nat} {L : Lay} {order level : List Nat} {nodes : List Nd} {shown : List Bool} {U F : Trip → Option Nat} (v lo hi : Nat) {w : World}
    (raw : Raw w p L order level nodes shown [] U F) (hne : lo ≠ hi) (hu : U (v, lo, hi) = none) (hn0 : 0 < nodes.length) (hs0 : 0 < shown.length) (hnb : nodes.length ≤ big) (hsb : shown.length ≤ big) :
    Calls Tryd.prog 79 #[ptr p, .int .i64 v, .int .i64 lo, .int .i64 hi] w (NewPost p L order level nodes shown U F v lo hi w) := by
  have hne' : ((lo : Int) == (hi : Int)) = false := by simp; omega
  have c5 := raw.c5
  have c2 := raw.c2
  have c4 := raw.c4
  have plt := raw.plt
  unfold big at hnb hsb
  obtain ⟨bn, cn, hsn, _⟩ := ownsRow_open raw.nodes hn0
  obtain ⟨bs, cs, hss, _⟩ := ownsRow_open raw.shown hs0
  obtain ⟨af, cf, hsf, _⟩ := ownsRow_len raw.free
  have hbs : bs < w.heap.size := raw.lt bs (by rw [Lay.at, hss]; simp [Value.ownBlock])
  have hbn : bn < w.heap.size := raw.lt bn (by rw [Lay.at, hsn]; simp [Value.ownBlock])
  have hpn : p ≠ bn := fun e => raw.row_mgr raw.nodes (by decide) (by rw [hsn, e]; rfl)
  have hps : p ≠ bs := fun e => raw.row_mgr raw.shown (by decide) (by rw [hss, e]; rfl)
  rw [hsn] at c2
  rw [hsf] at c4
  simp only [List.length_nil] at c4
  have hl2 : ∀ n, (Instr.lookup 101 (.map (some L.bu)) (.agg #[.int .i64 v, .int .i64 lo, .int .i64 hi]) true).run Tryd.prog ((w.alloc (box3 v lo hi)).drewN n) = .ok (.tuple #[.int .i64 0, .bool false]) ((w.alloc (box3 v lo hi)).drewN n) := fun n => by
    have := (raw.uniq.kp (Kp.trans_no (Kp.alloc (box3 v lo hi)) (Kp.drewN n)) (fun x => x)).lookup keyNode Tryd.underlying101 zeroRef ((v : Int), (lo : Int), (hi : Int)) true
    rw [hu] at this
    exact this
  have RAW := Lib.hid raw
  have HSN := Lib.hid hsn
  have HSS := Lib.hid hss
  clear raw hu hsn hsf hss
  obtain ⟨i0, hi0, hz0, hz1, hz2⟩ := info_parts info_node
  obtain ⟨j0, hj0, hy0, hy1, hy2⟩ := info_parts info_bool
  have NN : nodes.length ≤ 9223372036854775807 := by omega
  go_enter Tryd.func79, Tryd.ntmps79
  go_wp2
  go_quiet (fail)
  go_wp2
  -- the box
  have kpA : Kp No w ((w.alloc (Obj.cells #[.int .i64 v, .int .i64 lo, .int .i64 hi] 107)).drewN nq) := (Kp.alloc _).trans_no (Kp.drewN _)
  have boxA : ((w.alloc (Obj.cells #[.int .i64 v, .int .i64 lo, .int .i64 hi] 107)).drewN nq).heap[w.heap.size]? = some (Obj.cells #[.int .i64 v, .int .i64 lo, .int .i64 hi] 107 (0, 0)) := heap_alloc_new _ _
  have szA : w.heap.size < ((w.alloc (Obj.cells #[.int .i64 v, .int .i64 lo, .int .i64 hi] 107)).drewN nq).heap.size := heap_lt boxA
  clear hl2 c2 c4 c5
  generalize ((w.alloc (Obj.cells #[.int .i64 v, .int .i64 lo, .int .i64 hi] 107)).drewN nq) = A at *
  have rawA := RAW.out.no kpA
  have a2 := rawA.c2
  have g2 := rawA.fz 2
  have pltA := rawA.plt
  have oA := rawA.nodes
  rw [HSN.out] at a2 oA
  have e0 : A.cell? ⟨w.heap.size, 0, none⟩ = some (.int .i64 v) := by simp [World.cell?, boxA]
  have e1 : A.cell? ⟨w.heap.size, 1, none⟩ = some (.int .i64 lo) := by simp [World.cell?, boxA]
  have e2 : A.cell? ⟨w.heap.size, 2, none⟩ = some (.int .i64 hi) := by simp [World.cell?, boxA]
  have RA := Lib.hid rawA
  have BA := Lib.hid boxA
  have KA := Lib.hid kpA
  clear rawA boxA kpA
  have RAW' := RAW
  clear RAW
  generalize hB : w.heap.size = B at *
  have HB := Lib.hid hB
  clear hB
  have HBN := Lib.hid hbn
  go_cut [] (fun x => StB p L order level nodes shown U F v lo hi w B x)
  case first =>
    go_region_law ((refine step_append_lies _ (by rfl) _ _ _ (by rfl) 0 107 i0 _ 3 24 Tryd.underlying99 hi0 hz0 hz1 hz2 rfl (by omega) _ nodes.length (nodes.flatMap ndCells) (by rfl) ((oA.drew).alloc _) ⟨A.heap.size, 0, none⟩ 1 1 [.int .i64 v, .int .i64 lo, .int .i64 hi] (by rfl) rfl (World.news_of_block (heap_alloc_new _ _)) (by simp [Value.oneCell']) (by omega) (by unfold maxLen; omega) (by omega) (by omega) (A.heap.size + 1) (by simp) ?_; intro g cap w1 hown hgrow hat hlt; have q2 : w1.cell? ⟨p, 2, none⟩ = some (.slice (some ⟨bn, 0, none⟩) nodes.length cn) := (hgrow.cell_far ⟨p, 2, none⟩ (by simp; omega) (fun e => hpn (Option.some.inj e))).trans ((World.cell?_alloc_lt _ _ _ pltA).trans a2); have q3 : w1.frozen? ⟨p, 2, none⟩ = false := (hgrow.frozen_far ⟨p, 2, none⟩ (by simp; omega) (fun e => hpn (Option.some.inj e))).trans ((World.frozen?_alloc_old _ _ _ (by simp; omega)).trans g2)))
    all_goals
      go_wp2_with fail
      go_meet
      case rel => exact StB.mk RA.out HSN.out KA.out BA.out HB.out (by first | exact (Kp.alloc _).trans_no Kp.drew | exact Kp.drew.no_trans (Kp.alloc _)) hown hgrow hat hbn
  case rest =>
    obtain ⟨sn, rawB, kpB, frB, boxB⟩ := hcut
    have b3 := rawB.c3
    have f3 := rawB.fz 3
    have pB := rawB.plt
    have oB := rawB.shown
    simp only [HSS.out] at b3 oB
    have RB := Lib.hid rawB
    have KB := Lib.hid kpB
    have FB := Lib.hid frB
    have BB := Lib.hid boxB
    clear rawB kpB frB boxB
    go_wp2_with (at_builtin; refine wpList_append_lies _ rfl _ _ _ rfl 0 4 j0 _ 1 1 Tryd.underlying31 hj0 hy0 hy1 hy2 rfl (by omega) _ shown.length (shown.map .bool) rfl (oB.alloc _) ⟨wc.heap.size, 0, none⟩ 1 1 [.bool false] rfl rfl (World.news_of_block (heap_alloc_new _ _)) (by simp [Value.oneCell']) (by omega) (by unfold maxLen; omega) (by omega) (by omega) (wc.heap.size + 1) (by simp) ?_; intro g' cap' w2 hown2 hgrow2 hat2 hlt2; have q2 : w2.cell? ⟨p, 3, none⟩ = some (.slice (some ⟨bs, 0, none⟩) shown.length cs) := (hgrow2.cell_far ⟨p, 3, none⟩ (by simp; omega) (fun e => hps (Option.some.inj e))).trans ((World.cell?_alloc_lt _ _ _ pB).trans b3); have q3 : w2.frozen? ⟨p, 3, none⟩ = false := (hgrow2.frozen_far ⟨p, 3, none⟩ (by simp; omega) (fun e => hps (Option.some.inj e))).trans ((World.frozen?_alloc_old _ _ _ (by simp; omega)).trans f3))
    obtain ⟨rawC, kpC, frC, boxC⟩ := StC.mk RB.out (by simpa using HSS.out) KB.out FB.out BB.out HB.out (Kp.alloc _) hown2 hgrow2 hat2 hbs
    clear hown2 hgrow2 hat2 hlt2 q2 q3 b3 f3 oB pB
    generalize (w2.setCell ⟨p, 3, none⟩ (.slice (some ⟨g', 0, none⟩) (shown.length + 1) cap')) = C at *
    obtain ⟨w3, hupd, hmap, hk3, _⟩ := rawC.uniq.update keyNode Tryd.underlying101 ((v : Int), (lo : Int), (hi : Int)) nodes.length
    have c5 := rawC.c5
    have e0 : C.cell? ⟨B, 0, none⟩ = some (.int .i64 v) := by simp [World.cell?, boxC]
    have e1 : C.cell? ⟨B, 1, none⟩ = some (.int .i64 lo) := by simp [World.cell?, boxC]
    have e2 : C.cell? ⟨B, 2, none⟩ = some (.int .i64 hi) := by simp [World.cell?, boxC]
    have up : (Instr.mapUpdate 101 (.map (some L.bu)) (.agg #[.int .i64 v, .int .i64 lo, .int .i64 hi]) (.int .i64 nodes.length)).run Tryd.prog C.drew = .ok () w3.drew := hupd 1
    have FIN : Hid (NewPost p L order level nodes shown U F v lo hi w (.returned (.int .i64 nodes.length)) w3.drew) :=
      ⟨_, rfl, (rawC.setUniq hmap hk3).no Kp.drew, (kpC.trans frC (hk3.mono (fun k _ e => .inr (.inl e)))).trans_no Kp.drew, frC⟩
    clear hupd hmap hk3 rawC kpC frC boxC RB KB FB BB
    simp only at c5
    generalize L.bu = bu at *
    go_region
    go_wp2
    go_ret
    exact FIN.out

end Go.Proofs.YtgglkldoclejaaaDoor
