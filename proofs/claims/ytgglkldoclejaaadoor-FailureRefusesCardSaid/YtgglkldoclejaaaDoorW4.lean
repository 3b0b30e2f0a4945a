/-
  Walks: 'node' of the package bdd, where a free place is taken; the contract of 'node'.
-/
import Derived.Test.YtgglkldoclejaaaDoorW3
namespace Go.Proofs.YtgglkldoclejaaaDoor
open Go.RowKit

theorem ownsRow_cut {w : World} {e size n n' g cap : Nat} {xs : List Value} (h : w.ownsRow 0 e size (.slice (some ⟨g, 0, none⟩) n cap) n xs) (hn : n' ≤ n) :
    w.ownsRow 0 e size (.slice (some ⟨g, 0, none⟩) n' cap) n' (xs.take (n' * size)) := by
  have hm : n' * size ≤ n * size := Nat.mul_le_mul_right _ hn
  refine ⟨by rw [List.length_take, h.1]; omega, ?_⟩
  rcases h.2 with ⟨hx, _⟩ | ⟨g', cap', cur, hv, hb, hg, h1, h2, h3, h4⟩
  · cases hx
  · cases hv
    exact .inr ⟨g, cap, cur, rfl, hb, hg, by omega, h2, h3, by rw [← h4, List.take_take]; congr 1; omega⟩

theorem flat_set (l : List Nd) (f : Nat) (x : Nd) (h : f < l.length) :
    (((l.flatMap ndCells).set (f * 3) (.int .i64 x.1)).set (f * 3 + 1) (.int .i64 (x.2.1 : Int))).set (f * 3 + 2) (.int .i64 (x.2.2 : Int)) = (l.set f x).flatMap ndCells := by
  induction l generalizing f with
  | nil => simp at h
  | cons y l ih =>
    cases f with
    | zero => simp [ndCells]
    | succ f =>
      have := ih f (by simpa using h)
      have e0 : (f + 1) * 3 = f * 3 + 1 + 1 + 1 := by omega
      have e1 : (f + 1) * 3 + 1 = f * 3 + 1 + 1 + 1 + 1 := by omega
      have e2 : (f + 1) * 3 + 2 = f * 3 + 2 + 1 + 1 + 1 := by omega
      rw [e1, e2, e0]
      simp only [List.flatMap_cons, List.set_cons_succ]
      rw [← this]
      simp only [ndCells, List.cons_append, List.nil_append, List.set_cons_succ]

/-- What 'node' does if the node is not there, and a place is free. -/
def FreePost (p : Nat) (L : Lay) (order level : List Nat) (nodes : List Nd) (shown : List Bool) (free : List Nat) (f : Nat) (U F : Trip → Option Nat) (v lo hi : Nat) (w : World) (e : Ending) (w' : World) : Prop :=
  ∃ L', e = .returned (.int .i64 f) ∧ Raw w' p L' order level (nodes.set f ((v : Int), lo, hi)) shown free (fun x => if x = ((v : Int), (lo : Int), (hi : Int)) then some f else U x) F ∧
    Kp (L.at p) w w' ∧ Fresh (L.at p) (L'.at p) w

set_option maxRecDepth 100000 in
set_option maxHeartbeats 1000000 in
theorem node_free {p : Nat} {L : Lay} {order level : List Nat} {nodes : List Nd} {shown : List Bool} {free : List Nat} {f : Nat} {U F : Trip → Option Nat} (v lo hi : Nat) {w : World}
    (raw : Raw w p L order level nodes shown (free ++ [f]) U F) (hne : lo ≠ hi) (hu : U (v, lo, hi) = none) (hf : f < nodes.length) :
    Calls Tryd.prog 79 #[ptr p, .int .i64 v, .int .i64 lo, .int .i64 hi] w (FreePost p L order level nodes shown free f U F v lo hi w) := by
  have hne' : ((lo : Int) == (hi : Int)) = false := by simp; omega
  have c5 := raw.c5
  have c2 := raw.c2
  have c4 := raw.c4
  have z4 := raw.fz 4
  have plt := raw.plt
  obtain ⟨bn, cn, hsn, hn1, hn2, _, hncell, hnfz⟩ := ownsRow_open raw.nodes (by omega)
  obtain ⟨bf, cf, hsf, hf1, hf2, _, hfcell, _⟩ := ownsRow_open raw.free (by simp)
  have hpn : p ≠ bn := fun e => raw.row_mgr raw.nodes (by decide) (by rw [hsn, e]; rfl)
  have hpf : p ≠ bf := fun e => raw.row_mgr raw.free (by decide) (by rw [hsf, e]; rfl)
  have hnf : bn ≠ bf := fun e => row_ne raw.nodes raw.free (by decide) (k := bn) (by rw [hsn]; rfl) (by rw [hsf, e]; rfl)
  have hm := maxLen_val
  have cf0 : w.cell? ⟨bf, free.length, none⟩ = some (.int .i64 f) := hfcell _ _ (by simp [natV])
  have bflt := World.block_lt_of_cell? _ _ cf0
  have hg := ndCells_get nodes f 0 (nodes[f]) (by simp [hf]) (by omega)
  have k0 := hncell _ _ (ndCells_get nodes f 0 (nodes[f]) (by simp [hf]) (by omega))
  have k1 := hncell _ _ (ndCells_get nodes f 1 (nodes[f]) (by simp [hf]) (by omega))
  have k2 := hncell _ _ (ndCells_get nodes f 2 (nodes[f]) (by simp [hf]) (by omega))
  have bnlt := World.block_lt_of_cell? _ _ k0
  have y0 := hnfz (f * 3)
  have y1 := hnfz (f * 3 + 1)
  have y2 := hnfz (f * 3 + 2)
  rw [hsn] at c2
  rw [hsf] at c4
  simp only [List.length_append, List.length_singleton] at c4 hf1
  have hl2 : ∀ n, (Instr.lookup 101 (.map (some L.bu)) (.agg #[.int .i64 v, .int .i64 lo, .int .i64 hi]) true).run Tryd.prog ((w.alloc (box3 v lo hi)).drewN n) = .ok (.tuple #[.int .i64 0, .bool false]) ((w.alloc (box3 v lo hi)).drewN n) := fun n => by
    have := (raw.uniq.kp (Kp.trans_no (Kp.alloc (box3 v lo hi)) (Kp.drewN n)) (fun x => x)).lookup keyNode Tryd.underlying101 zeroRef ((v : Int), (lo : Int), (hi : Int)) true
    rw [hu] at this
    exact this
  have RAW := Lib.hid raw
  have HSN := Lib.hid hsn
  have HSF := Lib.hid hsf
  have NN : nodes.length ≤ 9223372036854775807 := by omega
  have FF : free.length + 1 ≤ 9223372036854775807 := by omega
  have q1 : (f : Int) < nodes.length := by omega
  have q2 : (free.length : Int) + 1 ≤ cf := by omega
  clear raw hu hsn hsf hncell hnfz hfcell hg hm hne
  go_enter Tryd.func79, Tryd.ntmps79
  go_wp2
  go_quiet (fail)
  go_wp2
  -- the box; the field 'free'
  have kpA : Kp No w ((w.alloc (Obj.cells #[.int .i64 v, .int .i64 lo, .int .i64 hi] 107)).drewN nq) := (Kp.alloc _).trans_no (Kp.drewN _)
  have boxA : ((w.alloc (Obj.cells #[.int .i64 v, .int .i64 lo, .int .i64 hi] 107)).drewN nq).heap[w.heap.size]? = some (Obj.cells #[.int .i64 v, .int .i64 lo, .int .i64 hi] 107 (0, 0)) := heap_alloc_new _ _
  clear hl2 c2 c4 c5 k0 k1 k2 y0 y1 y2 z4 cf0
  generalize ((w.alloc (Obj.cells #[.int .i64 v, .int .i64 lo, .int .i64 hi] 107)).drewN nq) = A at *
  have rawA := RAW.out.no kpA
  have oA := rawA.free
  rw [HSF.out] at oA
  have oA' := ownsRow_cut oA (n' := free.length) (by simp)
  rw [Nat.mul_one, List.map_append, List.take_left' (by simp)] at oA'
  have rawB := rawA.setFree (free' := free) oA'
  have boxB : (A.setCell ⟨p, 4, none⟩ (.slice (some ⟨bf, 0, none⟩) free.length cf)).heap[w.heap.size]? = some (Obj.cells #[.int .i64 v, .int .i64 lo, .int .i64 hi] 107 (0, 0)) := by
    rw [Below.heap_setCell _ _ _ _ (by simp; omega)]; exact boxA
  have kpB : Kp (L.at p) w (A.setCell ⟨p, 4, none⟩ (.slice (some ⟨bf, 0, none⟩) free.length cf)) := kpA.no_trans ((Kp.setCell _ _).mono (fun k _ e => .inl e))
  have frB : Fresh (L.at p) (Lay.at { L with sf := .slice (some ⟨bf, 0, none⟩) free.length cf } p) w := fun k hk => .inl (by
    rcases hk with h | h | h | h | h | h | h | h
    · exact .inl h
    · exact .inr (.inl h)
    · exact .inr (.inr (.inl h))
    · simp [Lay.at] at h ⊢; simp [h]
    · simp [Lay.at] at h ⊢; simp [h]
    · simp [Lay.at] at h ⊢; simp [h]
    · simp [Lay.at] at h ⊢; simp [h]
    · have : L.sf.ownBlock = some k := by rw [HSF.out]; exact h
      simp [Lay.at, this])
  clear rawA oA oA' kpA boxA
  generalize (A.setCell ⟨p, 4, none⟩ (.slice (some ⟨bf, 0, none⟩) free.length cf)) = W at *
  have c2 := rawB.c2
  have oN := rawB.nodes
  simp only [HSN.out] at c2 oN
  obtain ⟨bn', cn', he, _, _, _, hncell, hnfz⟩ := ownsRow_open oN (by omega)
  cases he
  have k0 := hncell _ _ (ndCells_get nodes f 0 (nodes[f]) (by simp [hf]) (by omega))
  have k1 := hncell _ _ (ndCells_get nodes f 1 (nodes[f]) (by simp [hf]) (by omega))
  have k2 := hncell _ _ (ndCells_get nodes f 2 (nodes[f]) (by simp [hf]) (by omega))
  have y0 := hnfz (f * 3)
  have y1 := hnfz (f * 3 + 1)
  have y2 := hnfz (f * 3 + 2)
  simp only [Nat.add_zero] at k0
  have e0 : W.cell? ⟨w.heap.size, 0, none⟩ = some (.int .i64 v) := by simp [World.cell?, boxB]
  have e1 : W.cell? ⟨w.heap.size, 1, none⟩ = some (.int .i64 lo) := by simp [World.cell?, boxB]
  have e2 : W.cell? ⟨w.heap.size, 2, none⟩ = some (.int .i64 hi) := by simp [World.cell?, boxB]
  have hbB : bn ≠ w.heap.size := by omega
  have hk : Kp (fun k => L.sn.ownBlock = some k) W (((W.setCell ⟨bn, f * 3, none⟩ (.int .i64 v)).setCell ⟨bn, f * 3 + 1, none⟩ (.int .i64 lo)).setCell ⟨bn, f * 3 + 2, none⟩ (.int .i64 hi)) := by
    have hs : ∀ (X : World) (i : Nat) (u : Value), Kp (fun k => L.sn.ownBlock = some k) X (X.setCell ⟨bn, i, none⟩ u) := fun X i u => (Kp.setCell _ _).mono (fun k _ e => by rw [HSN.out, e]; rfl)
    exact ((hs _ _ _).trans (A' := fun k => L.sn.ownBlock = some k) (fun k h => .inl h) (hs _ _ _)).trans (A' := fun k => L.sn.ownBlock = some k) (fun k h => .inl h) (hs _ _ _)
  have oN3 := ownsRow_store (ownsRow_store (ownsRow_store oN (f * 3) (.int .i64 v)) (f * 3 + 1) (.int .i64 lo)) (f * 3 + 2) (.int .i64 hi)
  rw [show (((nodes.flatMap ndCells).set (f * 3) (.int .i64 (v : Int))).set (f * 3 + 1) (.int .i64 (lo : Int))).set (f * 3 + 2) (.int .i64 (hi : Int)) = (nodes.set f ((v : Int), lo, hi)).flatMap ndCells from flat_set nodes f ((v : Int), lo, hi) hf] at oN3
  have rawC := rawB.kpNodes hk (nodes.set f ((v : Int), lo, hi)) (by simpa [HSN.out] using oN3)
  have boxC : (((W.setCell ⟨bn, f * 3, none⟩ (.int .i64 v)).setCell ⟨bn, f * 3 + 1, none⟩ (.int .i64 lo)).setCell ⟨bn, f * 3 + 2, none⟩ (.int .i64 hi)).heap[w.heap.size]? = some (Obj.cells #[.int .i64 v, .int .i64 lo, .int .i64 hi] 107 (0, 0)) := by
    rw [hk.block _ (heap_lt boxB) (fun e => by rw [HSN.out] at e; simp [Value.ownBlock] at e; omega)]; exact boxB
  obtain ⟨w3, hupd, hmap, hk3, _⟩ := rawC.uniq.update keyNode Tryd.underlying101 ((v : Int), (lo : Int), (hi : Int)) f
  have c5 := rawC.c5
  have j0 : (((W.setCell ⟨bn, f * 3, none⟩ (.int .i64 v)).setCell ⟨bn, f * 3 + 1, none⟩ (.int .i64 lo)).setCell ⟨bn, f * 3 + 2, none⟩ (.int .i64 hi)).cell? ⟨w.heap.size, 0, none⟩ = some (.int .i64 v) := by simp [World.cell?, boxC]
  have j1 : (((W.setCell ⟨bn, f * 3, none⟩ (.int .i64 v)).setCell ⟨bn, f * 3 + 1, none⟩ (.int .i64 lo)).setCell ⟨bn, f * 3 + 2, none⟩ (.int .i64 hi)).cell? ⟨w.heap.size, 1, none⟩ = some (.int .i64 lo) := by simp [World.cell?, boxC]
  have j2 : (((W.setCell ⟨bn, f * 3, none⟩ (.int .i64 v)).setCell ⟨bn, f * 3 + 1, none⟩ (.int .i64 lo)).setCell ⟨bn, f * 3 + 2, none⟩ (.int .i64 hi)).cell? ⟨w.heap.size, 2, none⟩ = some (.int .i64 hi) := by simp [World.cell?, boxC]
  have up : ∀ n, (Instr.mapUpdate 101 (.map (some L.bu)) (.agg #[.int .i64 v, .int .i64 lo, .int .i64 hi]) (.int .i64 f)).run Tryd.prog ((((W.setCell ⟨bn, f * 3, none⟩ (.int .i64 v)).setCell ⟨bn, f * 3 + 1, none⟩ (.int .i64 lo)).setCell ⟨bn, f * 3 + 2, none⟩ (.int .i64 hi)).drewN n) = .ok () (w3.drewN n) := hupd
  have FIN : Hid (∀ n, FreePost p L order level nodes shown free f U F v lo hi w (.returned (.int .i64 f)) (w3.drewN n)) := fun n =>
    ⟨_, rfl, (rawC.setUniq hmap hk3).no (Kp.drewN n), ((kpB.trans frB (hk.mono (fun k _ e => by simp [Lay.at, e]))).trans frB (hk3.mono (fun k _ e => .inr (.inl e)))).trans_no (Kp.drewN n), frB⟩
  have UP := Lib.hid up
  have J0 := Lib.hid j0
  have J1 := Lib.hid j1
  have J2 := Lib.hid j2
  have C5 := Lib.hid c5
  clear hupd hmap hk3 rawC kpB frB boxC boxB rawB oN oN3 hk hncell hnfz RAW HSN HSF up j0 j1 j2 c5
  generalize w.heap.size = B at *
  go_region
  go_wp2
  have j0 := J0.out
  have j1 := J1.out
  have j2 := J2.out
  have c5 := C5.out
  have up := UP.out 2
  clear J0 J1 J2 C5 UP k0 k1 k2 y0 y1 y2 e0 e1 e2 c2
  generalize (((W.setCell ⟨bn, f * 3, none⟩ (.int .i64 v)).setCell ⟨bn, f * 3 + 1, none⟩ (.int .i64 lo)).setCell ⟨bn, f * 3 + 2, none⟩ (.int .i64 hi)) = X at *
  have up2 : (Instr.mapUpdate 101 (.map (some L.bu)) (.agg #[.int .i64 v, .int .i64 lo, .int .i64 hi]) (.int .i64 f)).run Tryd.prog X.drew.drew = .ok () w3.drew.drew := up
  clear up
  generalize L.bu = bu at *
  go_region
  go_wp2
  go_ret
  exact FIN.out 2

/-- The contract of 'node'. -/
theorem node_ok {p : Nat} {M : Mgr} {L : Lay} (v lo hi : Nat) {w : World} (R : Rep w p M L) (hv : v < M.n) (hl : M.stored lo) (hh : M.stored hi) (dl : M.lev v < M.depth lo) (dh : M.lev v < M.depth hi)
    (hb : (M.put v lo hi).1.nodes.length ≤ big) :
    Calls Tryd.prog 79 #[ptr p, .int .i64 v, .int .i64 lo, .int .i64 hi] w (Ret p L w (M.put v lo hi).1 (.int .i64 (M.put v lo hi).2)) := by
  obtain ⟨F, raw, snd⟩ := R.raw
  have ps := Mgr.put_spec R.wf hv hl hh dl dh
  have huq : M.uq ((v : Int), (lo : Int), (hi : Int)) = M.find ((v : Int), lo, hi) := by simp [Mgr.uq]
  by_cases e : lo = hi
  · have e1 : M.put v lo hi = (M, lo) := by unfold Mgr.put; rw [if_pos e]
    subst e
    rw [e1]
    refine (node_same p v lo w).mono ?_
    rintro e w' ⟨rfl, rfl⟩
    exact ⟨L, rfl, R, Kp.refl _ _, fun k h => .inl h⟩
  · cases hf : M.find ((v : Int), lo, hi) with
    | some r =>
      have e1 : M.put v lo hi = (M, r) := by unfold Mgr.put; rw [if_neg e, hf]
      rw [e1]
      refine (node_found (v : Int) lo hi r raw (by omega) (by rw [huq, hf])).mono ?_
      rintro e w' ⟨rfl, hk⟩
      exact ⟨L, rfl, ⟨⟨F, raw.no hk, snd⟩, R.wf⟩, hk.of_no, fun k h => .inl h⟩
    | none =>
      have uqNew : ∀ (M' : Mgr) (r : Nat), M'.WF → M'.stored r → 2 ≤ r → M'.nd r = ((v : Int), lo, hi) → (∀ x : Nd, x ≠ ((v : Int), lo, hi) → x.1 ≠ -1 → M'.find x = M.find x) →
          (fun x => if x = ((v : Int), (lo : Int), (hi : Int)) then some r else M.uq x) = M'.uq := by
        intro M' r wf' st h2 hn hold
        funext x
        by_cases hx : x = ((v : Int), (lo : Int), (hi : Int))
        · subst hx
          rw [if_pos rfl]
          simp only [Mgr.uq, Int.toNat_natCast]
          rw [if_pos (by omega), ← hn, Mgr.find_eq wf' h2 st]
        · rw [if_neg hx]
          unfold Mgr.uq
          split
          · rename_i hpos
            refine (hold _ (fun h => hx ?_) (by simp; omega)).symm
            simp only [Prod.mk.injEq] at h
            obtain ⟨a, b, c⟩ := x
            simp only at h hpos ⊢
            rw [h.1, ← h.2.1, ← h.2.2, Int.toNat_of_nonneg hpos.2.1, Int.toNat_of_nonneg hpos.2.2]
          · rfl
      -- the finds in the new store
      have findOld : ∀ (M' : Mgr) (r : Nat), M'.WF → M'.nd r = ((v : Int), lo, hi) → (∀ g, g ≠ r → M'.nd g = M.nd g) → (¬ M.stored r) → (∀ g, g < M'.nodes.length → g < M.nodes.length ∨ g = r) → M.nodes.length ≤ M'.nodes.length →
          ∀ x : Nd, x ≠ ((v : Int), lo, hi) → x.1 ≠ -1 → M'.find x = M.find x := by
        intro M' r wf' hn hold hst hll hlen x hx hx1
        cases h1 : M.find x with
        | some g =>
          obtain ⟨g2, gl, gn⟩ := Mgr.find_some h1
          have hgr : g ≠ r := fun e => hst (e ▸ .inr ⟨gl, by rw [gn]; exact hx1⟩)
          have hg' : M'.nd g = x := by rw [hold g hgr]; exact gn
          rw [← hg', Mgr.find_eq wf' g2 (.inr ⟨by omega, by rw [hg']; exact hx1⟩)]
        | none =>
          have hno := Mgr.find_none h1
          cases h2 : M'.find x with
          | none => rfl
          | some g =>
            obtain ⟨g2, gl, gn⟩ := Mgr.find_some h2
            exfalso
            by_cases hgr : g = r
            · rw [hgr, hn] at gn; exact hx gn.symm
            · exact hno g g2 ((hll g gl).resolve_right hgr) (by rw [← hold g hgr]; exact gn)
      cases hg : M.free.getLast? with
      | some f =>
        have hmem : f ∈ M.free := List.mem_of_getLast? hg
        obtain ⟨f2, fl, fv⟩ := R.wf.fr f hmem
        have hsplit : M.free = M.free.dropLast ++ [f] := by
          rw [List.getLast?_eq_some_iff] at hg
          obtain ⟨ys, hy⟩ := hg
          rw [hy]; simp
        have e1 : M.put v lo hi = ({ M with nodes := M.nodes.set f ((v : Int), lo, hi), free := M.free.dropLast }, f) := by unfold Mgr.put; rw [if_neg e, hf]; simp only [hg]
        rw [e1] at ps ⊢
        rw [hsplit] at raw
        refine (node_free v lo hi raw e (by rw [huq, hf]) fl).mono ?_
        rintro e w' ⟨L', rfl, raw', hk, hfr⟩
        have hnew : ({ M with nodes := M.nodes.set f ((v : Int), lo, hi), free := M.free.dropLast } : Mgr).nd f = ((v : Int), lo, hi) := by simp [Mgr.nd, fl]
        rw [uqNew _ f ps.wf ps.st f2 hnew (findOld _ f ps.wf hnew (fun g hne => by simp [Mgr.nd, Ne.symm hne]) (fun hs => by rcases hs with hs | ⟨_, hs⟩ <;> first | omega | exact hs fv) (fun g hg => by simp at hg; exact .inl hg) (by simp))] at raw'
        exact ⟨L', rfl, ⟨⟨F, raw', snd.ext R.wf ps.ext⟩, ps.wf⟩, hk, hfr⟩
      | none =>
        have hfree : M.free = [] := by simpa using hg
        have e1 : M.put v lo hi = ({ M with nodes := M.nodes ++ [((v : Int), lo, hi)], shown := M.shown ++ [false] }, M.nodes.length) := by unfold Mgr.put; rw [if_neg e, hf]; simp only [hg]
        rw [e1] at ps hb ⊢
        have two := R.wf.two
        have hsh := R.wf.sh
        simp at hb
        rw [hfree] at raw
        refine (node_new v lo hi raw e (by rw [huq, hf]) (by omega) (by omega) (by omega) (by omega)).mono ?_
        rintro e w' ⟨L', rfl, raw', hk, hfr⟩
        have hnew : ({ M with nodes := M.nodes ++ [((v : Int), lo, hi)], shown := M.shown ++ [false] } : Mgr).nd M.nodes.length = ((v : Int), lo, hi) := by simp [Mgr.nd]
        rw [uqNew _ M.nodes.length ps.wf ps.st two hnew (findOld _ M.nodes.length ps.wf hnew (fun g hne => by
            simp only [Mgr.nd, List.getD_eq_getElem?_getD, List.getElem?_append]
            split
            · rfl
            · rw [List.getElem?_eq_none (by simp; omega), List.getElem?_eq_none (by omega)]) (fun hs => by rcases hs with hs | ⟨hs, _⟩ <;> omega) (fun g hg => by simp at hg; omega) (by simp))] at raw'
        refine ⟨L', rfl, ⟨⟨F, ?_, snd.ext R.wf ps.ext⟩, ps.wf⟩, hk, hfr⟩
        simpa [hfree] using raw'

end Go.Proofs.YtgglkldoclejaaaDoor
