/-
  Walks: small functions of the packages bdd and quant: 'Node', 'Join', 'Apply', 'variables', 'levels', 'repeats'.
-/
import Derived.Test.YtohinonkfhkclaaDoorLs
import Derived.Test.YtohinonkfhkclaaDoorOrder
import Derived.Test.YtohinonkfhkclaaDoorKeep
import Derived.Deep.CutBlock
import Derived.Deep.QuietTactic
import Derived.BigQuiet
namespace Go.Proofs.YtohinonkfhkclaaDoor
open Go.RowKit

set_option maxHeartbeats 400000 in
theorem Node_ok {p : Nat} {M : Mgr} {L : Lay} (f : Nat) {w : World} (R : Rep w p M L) (hf : M.stored f) :
    Calls Tryd.prog 93 #[ptr p, .int .i64 (f : Int)] w fun e w' => e = .returned (.tuple #[.int .i64 (M.nd f).1, .int .i64 ((M.nd f).2.1 : Int), .int .i64 ((M.nd f).2.2 : Int)]) ∧ Kp No w w' := by
  obtain ⟨F, raw, _⟩ := R.raw
  have hm := maxLen_val
  have hlt := M.stored_lt R.wf hf
  obtain ⟨bn, cn, hsn, hcn, hcm, hnd⟩ := raw.node_cells R.wf
  obtain ⟨n0, n1, n2⟩ := hnd f hlt
  have c2 := raw.c2
  rw [hsn] at c2
  have hle2 : M.nodes.length ≤ 9223372036854775807 := by omega
  have b1 : (f : Int) < M.nodes.length := by omega
  have b2 : ¬ (M.nodes.length : Int) ≤ (f : Int) := by omega
  have b0 : (0 : Int) ≤ (f : Int) := by omega
  have hbn := World.block_lt_of_cell? _ _ n0
  have plt := raw.plt
  unfold natV at n1 n2
  clear raw R hm hsn hnd hcn hcm hf hlt
  generalize M.nd f = x at *
  generalize M.nodes.length = nn at *
  go_enter Tryd.func93, Tryd.ntmps93
  go_wp2
  go_quiet (fail)
  go_wp2
  refine bodyPost_ret (v := .tuple #[.int .i64 x.1, .int .i64 (x.2.1 : Int), .int .i64 (x.2.2 : Int)]) (by simp [results, Tryd.results93, go_sem]) rfl ⟨rfl, (Kp.alloc _).trans_no (Kp.drewN _)⟩

theorem Join_ok {p : Nat} {M : Mgr} {L : Lay} (v lo hi : Nat) {w : World} (R : Rep w p M L) (hv : v < M.n) (hl : M.stored lo) (hh : M.stored hi) (hb : (M.joinM v lo hi).1.nodes.length ≤ big) :
    Calls Tryd.prog 94 #[ptr p, .int .i64 (v : Int), .int .i64 (lo : Int), .int .i64 (hi : Int)] w (Ret p L w (M.joinM v lo hi).1 (.int .i64 (M.joinM v lo hi).2)) := by
  have HC := Lib.hid (join_ok v lo hi R hv hl hh hb)
  have SD := Lib.hid (Sd.start R)
  clear R hv hl hh hb
  generalize M.joinM v lo hi = B at *
  go_enter Tryd.func94, Tryd.ntmps94
  go_wp2_with fail
  refine HC.out.mono ?_
  intro e x h
  obtain ⟨rfl, L2, s2⟩ := SD.out.step h
  clear h
  go_wp2_with fail
  go_ret
  exact s2.ret _

theorem Apply_ok {p : Nat} {M : Mgr} {L : Lay} (f g h : Nat) {w : World} (R : Rep w p M L) (sf : M.stored f) (sg : M.stored g) (sh : M.stored h) (hb : (Mgr.build M.n M (iteF M f g h)).1.nodes.length ≤ big) :
    Calls Tryd.prog 105 #[ptr p, .int .i64 (f : Int), .int .i64 (g : Int), .int .i64 (h : Int)] w (Ret p L w (Mgr.build M.n M (iteF M f g h)).1 (.int .i64 (Mgr.build M.n M (iteF M f g h)).2)) := by
  have HC := Lib.hid (ite_ok f g h R sf sg sh hb)
  have SD := Lib.hid (Sd.start R)
  clear R sf sg sh hb
  generalize Mgr.build M.n M (iteF M f g h) = B at *
  go_enter Tryd.func105, Tryd.ntmps105
  go_wp2_with fail
  refine HC.out.mono ?_
  intro e x h
  obtain ⟨rfl, L2, s2⟩ := SD.out.step h
  clear h
  go_wp2_with fail
  go_ret
  exact s2.ret _

/-! ### lists of variables -/
def varsB (n : Nat) (l : List Int) : Bool := l.all fun x => decide (0 ≤ x ∧ x < n)
theorem varsB_true {n : Nat} {l : List Int} : varsB n l = true ↔ ∀ k, k < l.length → 0 ≤ l.getD k 0 ∧ l.getD k 0 < n := by
  unfold varsB
  rw [List.all_eq_true]
  constructor
  · intro h k hk
    have := h (l.getD k 0) (by rw [List.getD_eq_getElem?_getD, List.getElem?_eq_getElem hk]; exact List.getElem_mem hk)
    simpa using this
  · intro h x hx
    obtain ⟨k, hk, rfl⟩ := List.getElem_of_mem hx
    have := h k hk
    rw [List.getD_eq_getElem?_getD, List.getElem?_eq_getElem hk] at this
    simpa using this
theorem varsB_bad {n : Nat} {l : List Int} {k : Nat} (hk : k < l.length) (h : ¬ (0 ≤ l.getD k 0 ∧ l.getD k 0 < n)) : varsB n l = false := by
  cases e : varsB n l
  · rfl
  · exact (h (varsB_true.1 e k hk)).elim
theorem varsB_nat {n : Nat} {l : List Int} (h : varsB n l = true) : ∃ m : List Nat, l = m.map Int.ofNat ∧ ∀ v, v ∈ m → v < n := by
  have h' : ∀ x, x ∈ l → 0 ≤ x ∧ x < n := fun x hx => by
    have := List.all_eq_true.1 h x hx
    simpa using this
  refine ⟨l.map Int.toNat, ?_, fun v hv => ?_⟩
  · rw [List.map_map]
    conv => lhs; rw [← List.map_id l]
    refine List.map_congr_left fun x hx => ?_
    have := (h' x hx).1
    show x = ((x.toNat : Nat) : Int)
    omega
  · obtain ⟨x, hx, rfl⟩ := List.mem_map.1 hv
    have := h' x hx
    omega
theorem varsB_of {n : Nat} {m : List Nat} (h : ∀ v, v ∈ m → v < n) : varsB n (m.map Int.ofNat) = true := by
  unfold varsB
  rw [List.all_eq_true]
  intro x hx
  obtain ⟨v, hv, rfl⟩ := List.mem_map.1 hx
  have := h v hv
  simp; omega

def VaR (w : World) (n : Nat) (l : List Int) (gk : Nat) (s : Value) (x : World) : Prop := ∃ k, k + gk = l.length ∧ s = .int .i64 (k : Int) ∧ (∀ i, i < k → 0 ≤ l.getD i 0 ∧ l.getD i 0 < n) ∧ w = x

set_option maxRecDepth 100000 in
set_option maxHeartbeats 1000000 in
theorem variables_ok {p : Nat} {M : Mgr} {L : Lay} (l : List Int) (hl : l.length ≤ 1000000) {dv : Value} {w : World} (R : Rep w p M L) (hd : SrcAt w dv 1 l.length (l.map intV)) :
    Calls Tryd.prog 74 #[ptr p, dv] w fun e w' => e = .returned (.bool (varsB M.n l)) ∧ w = w' := by
  have VARS := Lib.hid (vars_ok R)
  unfold natV at VARS
  have HD := Lib.hid hd
  obtain ⟨ao, cp, rfl⟩ := hd.form
  obtain ⟨ok, hok⟩ : ∃ b, varsB M.n l = b := ⟨_, rfl⟩
  rw [hok]
  have OK := Lib.hid hok
  clear hok hd R
  generalize M.n = n at *
  have hli : (l.length : Int) ≤ 1000000 := by omega
  go_enter Tryd.func74, Tryd.ntmps74
  go_wp2_with fail
  go_loopg [9] l.length (fun gk s x => VaR w n l gk s x)
  case atStart => exact ⟨0, by omega, rfl, fun i h => by omega, rfl⟩
  case round =>
    obtain ⟨k, hk, rfl, hin, hw⟩ := hrel
    subst hw
    by_cases hlt : k < l.length
    · obtain ⟨g1, o1, c1, hv1, _, hcell⟩ := HD.out.cellAt (by omega)
      have hv2 : ao = some ⟨g1, o1, none⟩ := by injection hv1
      subst hv2
      have hc := hcell k (intV (l.getD k 0)) (by simp [hlt])
      unfold intV at hc
      have hlti : (k : Int) < l.length := by omega
      have HK := Lib.hid hk
      clear hcell hv1 hk
      by_cases h0 : 0 ≤ l.getD k 0
      · by_cases h1 : l.getD k 0 < n
        · have JN : Hid (VaR w n l (l.length - (k + 1)) (.int .i64 ((k + 1 : Nat) : Int)) w) := Lib.hid ⟨k + 1, by omega, rfl, fun i hi => by
            by_cases e : i = k
            · subst e; exact ⟨h0, h1⟩
            · exact hin i (by omega), rfl⟩
          have h1' : ¬ (n : Int) ≤ l.getD k 0 := by omega
          clear hin
          generalize l.getD k 0 = y at *
          go_wp2_with (first | ((with_reducible refine VARS.out.mono ?_); rintro e w' ⟨rfl, rfl⟩))
          go_roundg (l.length - (k + 1))
          case measure => have := HK.out; omega
          case rel => exact JN.out
        · obtain rfl : ok = false := OK.out.symm.trans (varsB_bad hlt (fun h => h1 h.2))
          have h1' : (n : Int) ≤ l.getD k 0 := by omega
          clear hin
          generalize l.getD k 0 = y at *
          go_wp2_with (first | ((with_reducible refine VARS.out.mono ?_); rintro e w' ⟨rfl, rfl⟩))
          go_ret
          exact ⟨rfl, rfl⟩
      · obtain rfl : ok = false := OK.out.symm.trans (varsB_bad hlt (fun h => h0 h.1))
        have h0' : l.getD k 0 < 0 := by omega
        clear hin
        generalize l.getD k 0 = y at *
        go_wp2_with (first | ((with_reducible refine VARS.out.mono ?_); rintro e w' ⟨rfl, rfl⟩))
        go_ret
        exact ⟨rfl, rfl⟩
    · obtain rfl : k = l.length := by omega
      obtain rfl : ok = true := OK.out.symm.trans (varsB_true.2 hin)
      have hge : ¬ (l.length : Int) < l.length := by omega
      clear hin hk hlt
      go_wp2_with fail
      go_ret
      exact ⟨rfl, rfl⟩

/-! ### 'levels' -/
theorem made_zero (n : Nat) : (madeCells (Value.int .i64 0).cells (n * 1)).toList = List.replicate n (.int .i64 0) := by
  apply List.ext_getElem?
  intro j
  simp only [madeCells, Nat.mul_one, Array.getElem?_toList, List.getElem?_replicate]
  by_cases hj : j < n
  · simp [hj, Value.cells, Nat.mod_one]
  · simp [hj]
def LvRow (M : Mgr) (i : Nat) : List Value := (List.range M.n).map fun v => .int .i64 (if M.lev v < i then (M.lev v : Int) else 0)
theorem LvRow_zero (M : Mgr) : LvRow M 0 = List.replicate M.n (.int .i64 0) := by
  apply List.ext_getElem?
  intro j
  simp only [LvRow, List.getElem?_map, List.getElem?_replicate]
  by_cases hj : j < M.n
  · simp [hj]
  · simp [hj]
theorem LvRow_set {M : Mgr} (h : M.WF) {i : Nat} (hi : i < M.n) : (LvRow M i).set (M.ord i) (.int .i64 (i : Int)) = LvRow M (i + 1) := by
  obtain ⟨o1, o2⟩ := h.lo_ i hi
  apply List.ext_getElem?
  intro j
  by_cases hj : j < M.n
  · by_cases e : M.ord i = j
    · subst e
      simp [LvRow, hj, o2]
    · have hne : M.lev j ≠ i := fun x => e (by rw [← x, (h.ol j hj).2])
      have : (M.lev j < i + 1) ↔ M.lev j < i := by omega
      simp [LvRow, hj, e, this]
  · simp [LvRow, hj]
theorem LvRow_done {M : Mgr} (h : M.WF) : LvRow M M.n = (List.range M.n).map fun v => natV (M.lev v) := by
  unfold LvRow
  refine List.map_congr_left fun v hv => ?_
  have := (h.ol v (List.mem_range.1 hv)).1
  rw [if_pos this]; rfl
structure LvJ (w : World) (M : Mgr) (g i : Nat) (x : World) : Prop where
  row : x.ownsRow w.heap.size 3 1 (.slice (some ⟨g, 0, none⟩) M.n M.n) M.n (LvRow M i)
  kp : Kp No w x
theorem LvJ.ge {w x : World} {M : Mgr} {g i : Nat} (j : LvJ w M g i x) : w.heap.size ≤ g ∧ g < x.heap.size := j.row.lt g rfl
theorem LvJ.put {w x : World} {M : Mgr} {g i : Nat} (h : M.WF) (j : LvJ w M g i x) (hi : i < M.n) : LvJ w M g (i + 1) (x.setCell ⟨g, M.ord i, none⟩ (.int .i64 (i : Int))) := by
  refine ⟨?_, ?_⟩
  · have := ownsRow_put j.row (M.ord i) (.int .i64 (i : Int))
    rw [LvRow_set h hi] at this
    exact this
  · exact j.kp.trans (A' := fun x => x = g) (fun x e => .inr (by rw [e]; exact j.ge.1)) ((Kp.setCell _ _).mono (fun _ _ e => e))
theorem LvJ.cell {w x : World} {M : Mgr} {g i : Nat} (j : LvJ w M g i x) {v : Nat} (hv : v < M.n) : ∃ u, x.cell? ⟨g, v, none⟩ = some u ∧ x.frozen? ⟨g, v, none⟩ = false := by
  obtain ⟨g', c, hv', _, _, _, hc, hz⟩ := ownsRow_open j.row (by omega)
  cases hv'
  exact ⟨_, hc v (.int .i64 (if M.lev v < i then (M.lev v : Int) else 0)) (by simp [LvRow, hv]), hz v⟩
def LvR (w : World) (M : Mgr) (g : Nat) (w2 : World) (gk : Nat) (s : Value) (x : World) : Prop := ∃ i, i + gk = M.n ∧ s = .int .i64 (i : Int) ∧ LvJ w M g i x ∧ Kp (fun b => b = g) w2 x
def LvPost (w : World) (M : Mgr) (e : Ending) (w' : World) : Prop := ∃ g, e = .returned (.slice (some ⟨g, 0, none⟩) M.n M.n) ∧ w'.ownsRow w.heap.size 3 1 (.slice (some ⟨g, 0, none⟩) M.n M.n) M.n ((List.range M.n).map fun v => natV (M.lev v)) ∧ Kp No w w'

set_option maxRecDepth 100000 in
set_option maxHeartbeats 1000000 in
theorem levels_ok {p : Nat} {M : Mgr} {L : Lay} {w : World} (R : Rep w p M L) (hn : M.n ≤ 256) : Calls Tryd.prog 82 #[ptr p] w (LvPost w M) := by
  obtain ⟨i0, hi0, hz0, hz1, hz2⟩ := info_parts info_int
  have VARS := Lib.hid (vars_ok R)
  unfold natV at VARS
  obtain ⟨w1, hmk, r1, r2⟩ := run_make_full (P := Tryd.prog) w w.heap.size 28 3 i0 _ 1 Tryd.underlying28 hi0 hz0 hz1 .i64 .i64 M.n (by rw [hz2]; omega) (by rw [maxLen_val]; omega) (Nat.le_refl _)
  rw [made_zero, ← LvRow_zero] at r1
  have k1 : Kp No w w1 := (Kp.grown r2).mono (fun k _ e => by cases e)
  have J1 : Hid (LvJ w M w.heap.size 0 w1) := Lib.hid ⟨r1, k1⟩
  have ORD := Lib.hid (Order_ok (R.no k1) hn)
  have WF := Lib.hid R.wf
  have HN : Hid (M.order.length = M.n) := Lib.hid rfl
  have hni : (M.n : Int) ≤ 256 := by omega
  have hwg : w.heap.size < w1.heap.size := J1.out.ge.2
  clear r1 r2 R hn
  go_enter Tryd.func82, Tryd.ntmps82
  go_wp2_with fail
  refine VARS.out.mono ?_
  rintro e w' ⟨rfl, rfl⟩
  go_wp2_with fail
  refine ORD.out.mono ?_
  rintro e w2 ⟨v, rfl, orow, k2⟩
  have J2 : Hid (LvR w M w.heap.size w2 M.n (.int .i64 0) w2) := Lib.hid ⟨0, by omega, rfl, ⟨ownsRow_kp J1.out.row k2 (fun _ _ z => z), k1.trans_no k2⟩, Kp.refl _ _⟩
  have OROW : Hid (∀ y, Kp (fun b => b = w.heap.size) w2 y → SrcAt y v 1 M.n (M.order.map natV)) := Lib.hid (fun y ky => by
    rw [← HN.out]
    exact SrcAt.of_row (ownsRow_kp orow ky (fun b hb e => by have := (orow.lt b hb).1; omega)))
  rw [HN.out] at orow
  obtain ⟨ao, cp, rfl⟩ := (SrcAt.of_row orow).form
  clear orow k2 ORD hmk VARS J1
  generalize hnn : M.n = nn at *
  have HNN := Lib.hid hnn
  clear hnn
  go_wp2_with fail
  go_loopg [12] nn (fun gk s x => LvR w M w.heap.size w2 gk s x)
  case atStart => exact J2.out
  case round =>
    clear J2
    obtain ⟨i, hi, rfl, j, kx⟩ := hrel
    rw [HNN.out] at hi
    by_cases hlt : i < nn
    · obtain ⟨g1, o1, c1, hv1, _, hcell⟩ := (OROW.out wr kx).cellAt (by omega)
      have hv2 : ao = some ⟨g1, o1, none⟩ := by injection hv1
      subst hv2
      have him : i < M.n := by rw [HNN.out]; exact hlt
      have hil : i < M.order.length := him
      have hc := hcell i (natV (M.ord i)) (by simp [Mgr.ord, hil])
      unfold natV at hc
      obtain ⟨o1', o2'⟩ := WF.out.lo_ i him
      obtain ⟨u, cu, zu⟩ := j.cell o1'
      have JN : Hid (LvR w M w.heap.size w2 (nn - (i + 1)) (.int .i64 ((i + 1 : Nat) : Int)) (wr.setCell ⟨w.heap.size, M.ord i, none⟩ (.int .i64 (i : Int)))) := Lib.hid ⟨i + 1, by rw [HNN.out]; omega, rfl, j.put WF.out him, kx.trans (A' := fun b => b = w.heap.size) (fun b e => .inl e) ((Kp.setCell _ _).mono (fun _ _ e => e))⟩
      have hlti : (i : Int) < nn := by omega
      have ho : (M.ord i : Int) < nn := by rw [HNN.out] at o1'; omega
      have hwlt : w.heap.size < wr.heap.size := j.ge.2
      have HI := Lib.hid hi
      clear hcell hv1 hi j kx o1' o2' him hil
      generalize M.ord i = oi at *
      go_wp2_with fail
      go_roundg (nn - (i + 1))
      case measure => have := HI.out; omega
      case rel => exact JN.out
    · obtain rfl : i = nn := by omega
      have FIN : Hid (LvPost w M (.returned (.slice (some ⟨w.heap.size, 0, none⟩) i i)) wr) := Lib.hid (by
        refine ⟨w.heap.size, by rw [HNN.out], ?_, j.kp⟩
        have := j.row
        have e : LvRow M i = LvRow M M.n := by rw [HNN.out]
        rw [e, LvRow_done WF.out] at this
        exact this)
      have hge : ¬ (i : Int) < i := by omega
      clear hi j kx hlt
      go_wp2_with fail
      go_ret
      exact FIN.out

/-! ### 'repeats' -/
def InRow (n : Nat) (l : List Nat) : List Value := (List.range n).map fun v => .bool (decide (v ∈ l))
theorem InRow_nil (n : Nat) : InRow n [] = List.replicate n (.bool false) := by
  apply List.ext_getElem?
  intro j
  by_cases hj : j < n
  · simp [InRow, hj]
  · simp [InRow, hj]
theorem InRow_set (n : Nat) (l : List Nat) (x : Nat) : (InRow n l).set x (.bool true) = InRow n (l ++ [x]) := by
  apply List.ext_getElem?
  intro j
  by_cases hj : j < n
  · by_cases e : x = j
    · subst e; simp [InRow, hj]
    · have e' : ¬ j = x := fun h => e h.symm
      simp [InRow, hj, e, e']
  · simp [InRow, hj]
structure InJ (w : World) (n g : Nat) (l : List Nat) (x : World) : Prop where
  row : x.ownsRow w.heap.size 4 1 (.slice (some ⟨g, 0, none⟩) n n) n (InRow n l)
  kp : Kp No w x
theorem InJ.ge {w x : World} {n g : Nat} {l : List Nat} (j : InJ w n g l x) : w.heap.size ≤ g ∧ g < x.heap.size := j.row.lt g rfl
theorem InJ.put {w x : World} {n g : Nat} {l : List Nat} (j : InJ w n g l x) (v : Nat) : InJ w n g (l ++ [v]) (x.setCell ⟨g, v, none⟩ (.bool true)) := by
  refine ⟨?_, ?_⟩
  · have := ownsRow_put j.row v (.bool true)
    rw [InRow_set] at this
    exact this
  · exact j.kp.trans (A' := fun x => x = g) (fun x e => .inr (by rw [e]; exact j.ge.1)) ((Kp.setCell _ _).mono (fun _ _ e => e))
theorem InJ.cell {w x : World} {n g : Nat} {l : List Nat} (j : InJ w n g l x) {v : Nat} (hv : v < n) : x.cell? ⟨g, v, none⟩ = some (.bool (decide (v ∈ l))) ∧ x.frozen? ⟨g, v, none⟩ = false := by
  obtain ⟨g', c, hv', _, _, _, hc, hz⟩ := ownsRow_open j.row (by omega)
  cases hv'
  exact ⟨hc v _ (by simp [InRow, hv]), hz v⟩
theorem InJ.start (w : World) (n : Nat) (hn : n ≤ 256) : ∃ w1, (Instr.makeSlice 57 (.int .i64 (n : Int)) (.int .i64 (n : Int))).run Tryd.prog w = .ok (.slice (some ⟨w.heap.size, 0, none⟩) n n) w1 ∧ Hid (InJ w n w.heap.size [] w1) := by
  obtain ⟨j0, hj0, hy0, hy1, hy2⟩ := info_parts info_bool
  obtain ⟨w1, hrun, r1, r2⟩ := run_make_full (P := Tryd.prog) w w.heap.size 57 4 j0 _ 1 Tryd.underlying57 hj0 hy0 hy1 .i64 .i64 n (by rw [hy2]; omega) (by rw [maxLen_val]; omega) (Nat.le_refl _)
  rw [made_false, ← InRow_nil] at r1
  exact ⟨w1, hrun, Lib.hid ⟨r1, (Kp.grown r2).mono (fun k _ e => by cases e)⟩⟩
def RpR (w : World) (n g : Nat) (l : List Nat) (gk : Nat) (s : Value) (x : World) : Prop := ∃ i, i + gk = l.length ∧ s = .int .i64 (i : Int) ∧ InJ w n g (l.take i) x ∧ (l.take i).Nodup

set_option maxRecDepth 100000 in
set_option maxHeartbeats 1000000 in
theorem repeats_ok {p : Nat} {M : Mgr} {L : Lay} (l : List Nat) (hl : l.length ≤ 1000000) (hlv : ∀ v, v ∈ l → v < M.n) {dv : Value} {w : World} (R : Rep w p M L) (hn : M.n ≤ 256) (hd : SrcAt w dv 1 l.length (l.map natV)) (b : Bool) (hb : b = true ↔ ¬ l.Nodup) :
    Calls Tryd.prog 75 #[ptr p, dv] w fun e w' => e = .returned (.bool b) ∧ Kp No w w' := by
  have VARS := Lib.hid (vars_ok R)
  unfold natV at VARS
  obtain ⟨w1, hmk, J1⟩ := InJ.start w M.n hn
  have HD : Hid (∀ y, Kp No w y → SrcAt y dv 1 l.length (l.map natV)) := Lib.hid (fun y ky => hd.no ky)
  obtain ⟨ao, cp, rfl⟩ := hd.form
  have HB := Lib.hid hb
  have LV := Lib.hid hlv
  have hli : (l.length : Int) ≤ 1000000 := by omega
  have hni : (M.n : Int) ≤ 256 := by omega
  have J0 : Hid (RpR w M.n w.heap.size l l.length (.int .i64 0) w1) := Lib.hid ⟨0, by omega, rfl, J1.out, List.nodup_nil⟩
  clear R hd hb hlv J1 hn
  generalize M.n = n at *
  go_enter Tryd.func75, Tryd.ntmps75
  go_wp2_with fail
  refine VARS.out.mono ?_
  rintro e w' ⟨rfl, rfl⟩
  go_wp2_with fail
  clear hmk VARS
  go_loopg [13] l.length (fun gk s x => RpR w n w.heap.size l gk s x)
  case atStart => exact J0.out
  case round =>
    clear J0
    obtain ⟨i, hi, rfl, j, nd⟩ := hrel
    by_cases hlt : i < l.length
    · obtain ⟨g1, o1, c1, hv1, _, hcell⟩ := (HD.out wr j.kp).cellAt (by omega)
      have hv2 : ao = some ⟨g1, o1, none⟩ := by injection hv1
      subst hv2
      have hc := hcell i (natV (l.getD i 0)) (by simp [hlt])
      unfold natV at hc
      have hmem : l.getD i 0 ∈ l := by rw [List.getD_eq_getElem?_getD, List.getElem?_eq_getElem hlt]; exact List.getElem_mem hlt
      have hvn := LV.out _ hmem
      obtain ⟨cu, zu⟩ := j.cell hvn
      have hlti : (i : Int) < l.length := by omega
      have ho : (l.getD i 0 : Int) < n := by omega
      have hwlt : w.heap.size < wr.heap.size := j.ge.2
      have HI := Lib.hid hi
      have et : l.take (i + 1) = l.take i ++ [l.getD i 0] := by rw [List.take_succ_eq_append_getElem hlt]; simp [hlt]
      by_cases hin : l.getD i 0 ∈ l.take i
      · have KW := Lib.hid j.kp
        obtain rfl : b = true := HB.out.2 (fun h => by
          have h2 : (l.take (i + 1)).Nodup := h.sublist (List.take_sublist _ _)
          rw [et, List.nodup_append] at h2
          exact h2.2.2 _ hin _ (by simp) rfl)
        rw [decide_eq_true hin] at cu
        clear hcell hv1 hi j nd et hin hmem hvn
        generalize l.getD i 0 = y at *
        go_wp2_with fail
        go_ret
        exact ⟨rfl, KW.out⟩
      · have JN : Hid (RpR w n w.heap.size l (l.length - (i + 1)) (.int .i64 ((i + 1 : Nat) : Int)) (wr.setCell ⟨w.heap.size, l.getD i 0, none⟩ (.bool true))) := Lib.hid ⟨i + 1, by omega, rfl, by rw [et]; exact j.put _, by
          rw [et, List.nodup_append]
          refine ⟨nd, by simp, fun a ha c hc e => ?_⟩
          rw [List.mem_singleton] at hc
          rw [e, hc] at ha
          exact hin ha⟩
        rw [decide_eq_false hin] at cu
        clear hcell hv1 hi j nd et hin hmem hvn
        generalize l.getD i 0 = y at *
        go_wp2_with fail
        go_roundg (l.length - (i + 1))
        case measure => have := HI.out; omega
        case rel => exact JN.out
    · obtain rfl : i = l.length := by omega
      rw [List.take_length] at nd
      obtain rfl : b = false := by
        cases hb : b
        · rfl
        · exact (HB.out.1 hb nd).elim
      have KW := Lib.hid j.kp
      have hge : ¬ (l.length : Int) < l.length := by omega
      clear hi j nd hlt
      go_wp2_with fail
      go_ret
      exact ⟨rfl, KW.out⟩

end Go.Proofs.YtohinonkfhkclaaDoor
