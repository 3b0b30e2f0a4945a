/-
  Plain: a number moved to another place of a list; walks: 'Place' of the package reorder.
-/
import Derived.Test.YtngbodmooddjbaaGreatUn
import Derived.Test.YtngbodmooddjbaaGreatRvd
import Derived.Shelf.Lay
import Derived.Shelf.Slices.Delete
import Derived.Shelf.Spec.SlicesInsert
import Derived.Ground.Names2Prog
namespace Go.Proofs.YtngbodmooddjbaaGreat
open Go.RowKit

/-- A value's block is new or another value's. -/
def OffV (w : World) (ov rv : Value) : Prop := ∀ g o n c, rv = .slice (some ⟨g, o, none⟩) n c → w.heap.size ≤ g ∨ ∃ o' n' c', ov = .slice (some ⟨g, o', none⟩) n' c'
theorem OffV.self (w : World) (v : Value) : OffV w v v := fun _ _ _ _ e => .inr ⟨_, _, _, e⟩
theorem OffV.row {w w' : World} {e s n : Nat} {v ov : Value} {xs : List Value} (h : w'.ownsRow w.heap.size e s v n xs) : OffV w ov v := fun g _ _ _ e => .inl (h.lt g (by rw [e]; rfl)).1
/-- And a row stays a row. -/
def OffR (w w' : World) (ov rv : Value) (l r : List Nat) : Prop := OffV w ov rv ∧ (w.ownsRow 0 3 1 ov l.length (l.map natV) → w'.ownsRow 0 3 1 rv l.length (r.map natV))
theorem OffR.self (w : World) (v : Value) (l : List Nat) : OffR w w v v l l := ⟨OffV.self w v, fun h => h⟩
theorem OffR.of {w w' : World} {v ov : Value} {l r : List Nat} (h : w'.ownsRow w.heap.size 3 1 v l.length (r.map natV)) : OffR w w' ov v l r := ⟨OffV.row h, fun _ => ownsRow_mono h (Nat.zero_le _)⟩
def RswPost (w : World) (ov : Value) (l : List Nat) (v : Int) (e : Ending) (w' : World) : Prop :=
  ∃ rv, e = .returned (.tuple #[rv, .bool (swV l.length v)]) ∧ SrcAt w' rv 1 l.length ((if swV l.length v then swO l v.toNat else l).map natV) ∧ Kp No w w' ∧ OffR w w' ov rv l (if swV l.length v then swO l v.toNat else l)

set_option maxRecDepth 100000 in
set_option maxHeartbeats 4000000 in
theorem RefSwap_ok {w : World} {l : List Nat} {ov : Value} (v : Int) (src : SrcAt w ov 1 l.length (l.map natV)) (hn : l.length ≤ 256) :
    Calls Tryz.prog 38 #[ov, .int .i64 v] w (RswPost w ov l v) := by
  obtain ⟨i0, hi0, hz0, hz1, hz2⟩ := info_parts info_int
  have SRC := Lib.hid src
  obtain ⟨ao, co, rfl⟩ := src.form
  have hni : (l.length : Int) ≤ 256 := by omega
  clear src
  by_cases hb : 0 ≤ v ∧ v < (l.length : Int) - 1
  case neg =>
    have e : swV l.length v = false := decide_eq_false hb
    have RET : Hid (RswPost w (.slice ao l.length co) l v (.returned (.tuple #[.slice ao l.length co, .bool false])) w) := Lib.hid ⟨_, by rw [e], by rw [e]; exact SRC.out, Kp.refl _ _, by rw [e]; exact OffR.self _ _ _⟩
    clear e
    by_cases h0 : v < 0
    · clear hb
      go_enter Tryz.func38, Tryz.ntmps38
      go_wp2_with fail
      go_ret2
      exact RET.out
    · have h1 : (l.length : Int) - 1 ≤ v := by omega
      clear hb
      go_enter Tryz.func38, Tryz.ntmps38
      go_wp2_with fail
      go_ret2
      exact RET.out
  have e : swV l.length v = true := decide_eq_true hb
  have POST : Hid (∀ w3 g cap, w3.ownsRow w.heap.size 3 1 (.slice (some ⟨g, 0, none⟩) l.length cap) l.length ((swO l v.toNat).map natV) → Kp No w w3 → RswPost w (.slice ao l.length co) l v (.returned (.tuple #[.slice (some ⟨g, 0, none⟩) l.length cap, .bool true])) w3) := Lib.hid (fun w3 g cap h k =>
    ⟨_, by rw [e], by rw [e]; exact SrcAt.of_row h, k, by rw [e]; exact OffR.of h⟩)
  clear e
  obtain ⟨k, rfl⟩ := Int.eq_ofNat_of_zero_le hb.1
  rw [Int.toNat_natCast] at POST
  have hk : k + 1 < l.length := by omega
  have hki : (k : Int) < (l.length : Int) - 1 := by omega
  have HK := Lib.hid hk
  have HONE : Hid (∀ x ∈ l.map natV, x.oneCell' = true) := Lib.hid (fun x hx => by obtain ⟨y, _, rfl⟩ := List.mem_map.1 hx; rfl)
  clear hb hk
  go_enter Tryz.func38, Tryz.ntmps38
  go_upto_region 4 with (at_builtin; refine wpList_append_src rfl _ _ rfl (base := w.heap.size) (v := .slice none 0 0) Tryz.underlying24 hi0 hz0 hz1 hz2 rfl (by omega) rfl (World.ownsRow_nil _ _ _ _) rfl SRC.out HONE.out (by unfold maxLen; omega) (by omega) (by omega) ?_; intro vc w1 hown0 hgrow hat)
  have orow : w1.ownsRow w.heap.size 3 1 vc l.length (l.map natV) := by simpa using hown0
  have KK1 : Hid (Kp No w w1) := Lib.hid ((Kp.grown hgrow).mono (fun x _ h => by simp [Value.ownBlock] at h))
  obtain ⟨g, cap, rfl, hc1, hc2, _, hcl, hzl⟩ := ownsRow_open (row_zero orow) (by have := HK.out; omega)
  have d0 := hcl k (natV (l.getD k 0)) (natsAt_get (by have := HK.out; omega))
  have d1 := hcl (k + 1) (natV (l.getD (k + 1) 0)) (natsAt_get HK.out)
  have z0 := hzl k
  have z1 := hzl (k + 1)
  have glt := World.block_lt_of_cell? _ _ d0
  have OROW := Lib.hid orow
  unfold natV at d0 d1
  clear orow hcl hzl hown0 hgrow hat
  generalize hA : l.getD k 0 = a at *
  generalize hB : l.getD (k + 1) 0 = b at *
  have HA := Lib.hid hA
  have HBB := Lib.hid hB
  clear hA hB
  have KS : ∀ (X : World) (i : Nat) (u : Value), Kp (fun z => z = g) X (X.setCell ⟨g, i, none⟩ u) := fun X i u => (Kp.setCell _ _).mono (fun _ _ e => e)
  have K2 : Hid (Kp No w ((w1.setCell ⟨g, k, none⟩ (.int .i64 (b : Int))).setCell ⟨g, k + 1, none⟩ (.int .i64 (a : Int))).drew) := Lib.hid
    ((KK1.out.trans (A := No) (A' := fun z => z = g) (fun z e => .inr (by rw [e]; exact (OROW.out.lt g rfl).1)) ((KS w1 k (.int .i64 (b : Int))).trans (A' := fun z => z = g) (fun _ e => .inl e) (KS _ (k + 1) (.int .i64 (a : Int))))).trans_no Kp.drew)
  have R2 : Hid (((w1.setCell ⟨g, k, none⟩ (.int .i64 (b : Int))).setCell ⟨g, k + 1, none⟩ (.int .i64 (a : Int))).drew.ownsRow w.heap.size 3 1 (.slice (some ⟨g, 0, none⟩) l.length cap) l.length ((swO l k).map natV)) := Lib.hid (by
    have h := ownsRow_put (ownsRow_put OROW.out k (.int .i64 (b : Int))) (k + 1) (.int .i64 (a : Int))
    have e : (swO l k).map natV = ((l.map natV).set k (.int .i64 (b : Int))).set (k + 1) (.int .i64 (a : Int)) := by
      unfold swO
      rw [HA.out, HBB.out, List.map_set, List.map_set]; rfl
    rw [e]
    exact h)
  have RET := Lib.hid (POST.out _ g cap R2.out K2.out)
  clear KS R2 POST K2
  go_region
  clear d0 d1 z0 z1 glt
  go_wp2_with fail
  go_ret2
  exact RET.out

end Go.Proofs.YtngbodmooddjbaaGreat

namespace Go.Proofs.YtngbodmooddjbaaGreat
open Go.RowKit

def permB (n : Nat) (l : List Int) : Bool := decide (l.length = n) && (varsB n l && distB l)
theorem permB_iff {n : Nat} {l : List Int} : permB n l = true ↔ PermI n l := by
  unfold permB PermI distB varsB
  rw [Bool.and_eq_true, Bool.and_eq_true, decide_eq_true_iff, decide_eq_true_iff, List.all_eq_true]
  constructor
  · rintro ⟨h1, h2, h3⟩
    exact ⟨h1, h3, fun v hv => by simpa using h2 v hv⟩
  · rintro ⟨h1, h2, h3⟩
    exact ⟨h1, fun v hv => by simpa using h3 v hv, h2⟩

set_option maxRecDepth 100000 in
set_option maxHeartbeats 1000000 in
theorem RPerm_ok (n : Nat) (l : List Int) (hn : n ≤ 256) (hl : l.length ≤ 1000000) {dv : Value} {w : World} (hd : SrcAt w dv 1 l.length (l.map intV)) :
    Calls Tryz.prog 10 #[dv, .int .i64 (n : Int)] w fun e w' => e = .returned (.bool (permB n l)) ∧ ∃ m, w' = w.drewN m := by
  have V := Lib.hid (RVariables_ok n l hl hd)
  have D := Lib.hid (RDistinct_ok l hl hd)
  obtain ⟨ao, cp, rfl⟩ := hd.form
  have hli : (l.length : Int) ≤ 1000000 := by omega
  have hni : (n : Int) ≤ 256 := by omega
  obtain ⟨r, hr⟩ : ∃ r, permB n l = r := ⟨_, rfl⟩
  have HR := Lib.hid hr
  rw [hr]
  clear hr hd
  by_cases h1 : l.length = n
  case neg =>
    obtain rfl : r = false := by rw [← HR.out]; unfold permB; rw [decide_eq_false h1]; rfl
    have hne : ((l.length : Int) == (n : Int)) = false := by simp; omega
    have hne2 : ¬ ((l.length : Int) = (n : Int)) := by omega
    go_enter Tryz.func10, Tryz.ntmps10
    go_wp2_with fail
    go_ret
    exact ⟨rfl, 0, rfl⟩
  subst h1
  cases hv : varsB l.length l with
  | false =>
    obtain rfl : r = false := by rw [← HR.out]; unfold permB; rw [hv, decide_eq_true rfl]; rfl
    rw [hv] at V
    clear hv
    go_enter Tryz.func10, Tryz.ntmps10
    go_wp2_with fail
    refine V.out.mono ?_
    rintro e w' ⟨rfl, rfl⟩
    go_wp2_with fail
    go_ret
    exact ⟨rfl, 0, rfl⟩
  | true =>
    obtain rfl : distB l = r := by rw [← HR.out]; unfold permB; rw [hv, decide_eq_true rfl]; rfl
    rw [hv] at V
    clear hv HR
    generalize distB l = d at *
    go_enter Tryz.func10, Tryz.ntmps10
    go_wp2_with fail
    refine V.out.mono ?_
    rintro e w' ⟨rfl, rfl⟩
    go_wp2_with fail
    refine D.out.mono ?_
    rintro e w' ⟨rfl, m, rfl⟩
    cases d
    · go_wp2_with fail
      go_ret
      exact ⟨rfl, m, rfl⟩
    · go_wp2_with fail
      go_ret
      exact ⟨rfl, m, rfl⟩

def IdxR (w : World) (l : List Nat) (v : Nat) (gk : Nat) (s8 : Value) (x : World) : Prop := ∃ k, k + gk = l.length ∧ s8 = .int .i64 (k : Int) ∧ x = w ∧ ∀ i, i < k → l.getD i 0 ≠ v

set_option maxRecDepth 100000 in
set_option maxHeartbeats 1000000 in
/-- 'slices.Index' of a number that is there. -/
theorem SIdx_ok {l : List Nat} {v : Nat} {ov : Value} {w : World} (hl : l.length ≤ 256) (hm : v ∈ l) (src : SrcAt w ov 1 l.length (l.map natV)) :
    Calls Tryz.prog 65 #[ov, .int .i64 (v : Int)] w fun e w' => ∃ k : Nat, e = .returned (.int .i64 (k : Int)) ∧ w' = w ∧ k < l.length ∧ l.getD k 0 = v ∧ ∀ i, i < k → l.getD i 0 ≠ v := by
  have SRC := Lib.hid src
  obtain ⟨ao, co, rfl⟩ := src.form
  have HM := Lib.hid hm
  have hli : (l.length : Int) ≤ 256 := by omega
  have J0 : Hid (IdxR w l v l.length (.int .i64 0) w) := Lib.hid ⟨0, by omega, rfl, rfl, fun i h => by omega⟩
  clear src hm
  go_enter Tryz.func65, Tryz.ntmps65
  go_wp2_with fail
  go_loopg [8] l.length (fun gk s8 x => IdxR w l v gk s8 x)
  case atStart => exact J0.out
  case round =>
    clear J0
    obtain ⟨k, hk, rfl, rfl, hne⟩ := hrel
    have HNE := Lib.hid hne
    have HK := Lib.hid hk
    by_cases hlt : k < l.length
    · have hlti : (k : Int) < l.length := by omega
      obtain ⟨g, o, cc, hv, glt, hc⟩ := SRC.out.cellAt (by omega)
      cases hv
      have d1 := hc k (natV (l.getD k 0)) (natsAt_get hlt)
      unfold natV at d1
      have HLT := Lib.hid hlt
      by_cases e : l.getD k 0 = v
      · have E := Lib.hid e
        rw [e] at d1
        clear hne hk hc e
        go_wp2_with fail
        go_ret
        exact ⟨k, rfl, rfl, HLT.out, E.out, HNE.out⟩
      · have ei : ¬ ((v : Int) = ((l.getD k 0 : Nat) : Int)) := by omega
        have ej : (((v : Nat) : Int) == ((l.getD k 0 : Nat) : Int)) = false := by simpa using ei
        have JN : Hid (IdxR wr l v (l.length - (k + 1)) (.int .i64 ((k + 1 : Nat) : Int)) wr) := Lib.hid ⟨k + 1, by omega, rfl, rfl, fun i hi => by
          by_cases e2 : i = k
          · subst e2; exact e
          · exact hne i (by omega)⟩
        clear hne hk hc e
        generalize l.getD k 0 = y at *
        go_wp2_with fail
        go_roundg (l.length - (k + 1))
        case measure => have := HK.out; omega
        case rel => exact JN.out
    · exfalso
      obtain ⟨i, hi, e⟩ := List.getElem_of_mem HM.out
      refine HNE.out i (by omega) ?_
      rw [List.getD_eq_getElem?_getD, List.getElem?_eq_getElem hi]
      exact e

end Go.Proofs.YtngbodmooddjbaaGreat

namespace Go.Proofs.YtngbodmooddjbaaGreat
open Go.Shelf Go.RowKit

shelf_lay Lays2.n23 Nm2 23 at Tryz as Tryz.delInts
shelf_lay Lays2.n21 Nm2 21 at Tryz as Tryz.insInts

/-- 'slices.Delete' of one number. -/
theorem Del_ok {w : World} {b0 g cap k : Nat} {l : List Int} (row : w.ownsRow b0 3 1 (.slice (some ⟨g, 0, none⟩) l.length cap) l.length (l.map intV)) (hk : k < l.length) :
    Calls Tryz.prog 67 #[.slice (some ⟨g, 0, none⟩) l.length cap, .int .i64 (k : Int), .int .i64 ((k + 1 : Nat) : Int)] w fun e w' => e = .returned (.slice (some ⟨g, 0, none⟩) (l.length - (k + 1 - k)) cap) ∧ ∃ q, w' = Sort.putRow (Value.int .i64) (Sort.ahead w q) g 0 (l.take k ++ l.drop (k + 1) ++ List.replicate (k + 1 - k) 0).toArray := by
  obtain ⟨g', c', hv, h1, h2, _, hcl, hzl⟩ := ownsRow_open (row_zero row) (by omega)
  cases hv
  refine Any.slices_Delete_int Tryz.delInts g 0 cap k (k + 1) l w (fun j hj => ?_) h1 (by unfold maxLen at h2; omega) (by omega) (by omega)
  have hj' : j < l.length := by simpa using hj
  refine ⟨?_, by simpa using hzl j⟩
  rw [Nat.zero_add]
  refine hcl j _ ?_
  simp [intV, hj']

theorem ownsRow_putRow {w : World} {b0 g n cap q : Nat} {xs : List Value} {l' : List Int} (row : w.ownsRow b0 3 1 (.slice (some ⟨g, 0, none⟩) n cap) n xs) (hl : l'.length = n) :
    (Sort.putRow (Value.int .i64) (Sort.ahead w q) g 0 l'.toArray).ownsRow b0 3 1 (.slice (some ⟨g, 0, none⟩) n cap) n (l'.map intV) ∧ Kp (fun z => z = g) w (Sort.putRow (Value.int .i64) (Sort.ahead w q) g 0 l'.toArray) := by
  constructor
  · refine ⟨by rw [List.length_map, hl, Nat.mul_one], ?_⟩
    rcases row.2 with ⟨hx, _⟩ | ⟨g', cap', cur, hv, hb, hg, h1, h2, h3, h4⟩
    · cases hx
    · cases hv
      refine .inr ⟨g, cap, Sort.putCells (Value.int .i64) 0 l'.toArray cur, rfl, hb, ?_, h1, h2, by simpa [Sort.putCells] using h3, ?_⟩
      · show (w.heap.modify g _)[g]? = _
        rw [Array.getElem?_modify, if_pos rfl, hg]
        rfl
      · apply List.ext_getElem?
        intro j
        rw [List.getElem?_take]
        by_cases hj : j < n * 1
        · have hjl : j < l'.length := by omega
          have hjc : j < cur.size := by omega
          rw [if_pos hj]
          simp [Sort.putCells, hjl, hjc, intV]
        · rw [if_neg hj, List.getElem?_eq_none (by rw [List.length_map]; omega)]
  · refine ⟨rfl, rfl, rfl, by simp [Sort.ahead], fun k hk hn => ?_⟩
    show (w.heap.modify g _)[k]? = _
    rw [Array.getElem?_modify, if_neg (fun e => hn e.symm)]

end Go.Proofs.YtngbodmooddjbaaGreat

namespace Go.Proofs.YtngbodmooddjbaaGreat
open Go.Shelf Go.RowKit

def setL : List Value → Nat → List Value → List Value
  | xs, _, [] => xs
  | xs, o, v :: r => setL (xs.set o v) (o + 1) r
theorem setL_len : ∀ (vs xs : List Value) (o : Nat), (setL xs o vs).length = xs.length
  | [], _, _ => rfl
  | v :: r, xs, o => by show (setL (xs.set o v) (o + 1) r).length = _; rw [setL_len r]; simp
theorem setL_get : ∀ (vs xs : List Value) (o j : Nat), o + vs.length ≤ xs.length → (setL xs o vs)[j]? = if o ≤ j ∧ j < o + vs.length then vs[j - o]? else xs[j]?
  | [], xs, o, j, _ => by rw [if_neg (by simp)]; rfl
  | v :: r, xs, o, j, h => by
    show (setL (xs.set o v) (o + 1) r)[j]? = _
    rw [List.length_cons] at h ⊢
    rw [setL_get r (xs.set o v) (o + 1) j (by simp; omega)]
    by_cases h1 : o + 1 ≤ j ∧ j < o + 1 + r.length
    · rw [if_pos h1, if_pos (by omega), show j - o = (j - (o + 1)) + 1 by omega]; rfl
    · rw [if_neg h1, List.getElem?_set]
      by_cases h2 : o = j
      · subst h2
        rw [if_pos rfl, if_pos (by omega), if_pos (by omega), Nat.sub_self]; rfl
      · rw [if_neg h2, if_neg (by omega)]
theorem ownsRow_setCells {b0 g n cap : Nat} : ∀ (vs : List Value) {w : World} {xs : List Value} (o : Nat), w.ownsRow b0 3 1 (.slice (some ⟨g, 0, none⟩) n cap) n xs → (w.setCells g o vs).ownsRow b0 3 1 (.slice (some ⟨g, 0, none⟩) n cap) n (setL xs o vs) ∧ Kp (fun z => z = g) w (w.setCells g o vs)
  | [], _, _, _, h => ⟨h, Kp.refl _ _⟩
  | v :: r, w, xs, o, h => by
    obtain ⟨h1, h2⟩ := ownsRow_setCells r (o + 1) (ownsRow_put h o v)
    exact ⟨h1, ((Kp.setCell ⟨g, o, none⟩ v).mono (fun _ _ e => e) : Kp (fun z => z = g) w (w.setCell ⟨g, o, none⟩ v)).trans (A' := fun z => z = g) (fun _ e => .inl e) h2⟩

theorem Ins_ok {w : World} {b0 g cap n i vb : Nat} {xs : List Value} {v : Int} (row : w.ownsRow b0 3 1 (.slice (some ⟨g, 0, none⟩) (n + 1) cap) (n + 1) xs) (h1 : ∀ x ∈ xs, x.oneCell' = true) (hi : i ≤ n) (hvb : w.heap[vb]? = some (.cells #[.int .i64 v] 3 (0, 0))) (hne : vb ≠ g) :
    Calls Tryz.prog 66 #[.slice (some ⟨g, 0, none⟩) n cap, .int .i64 (i : Int), .slice (some ⟨vb, 0, none⟩) 1 1] w fun e w' => e = .returned (.slice (some ⟨g, 0, none⟩) (n + 1) cap) ∧
      w'.ownsRow b0 3 1 (.slice (some ⟨g, 0, none⟩) (n + 1) cap) (n + 1) (setL (setL xs (i + 1) ((xs.take n).drop i)) i [.int .i64 v]) ∧ Kp (fun z => z = g) w w' := by
  obtain ⟨g', c', hv, hc1, hc2, ⟨cur, hcur, _⟩, hcl, hzl⟩ := ownsRow_open row (by omega)
  cases hv
  have hlx : xs.length = n + 1 := by have := row.1; omega
  have hm : cap ≤ 9223372036854775807 := by have := hc2; unfold maxLen at this; omega
  have vcell : w.cell? ⟨vb, 0, none⟩ = some (.int .i64 v) := by rw [cell_of_row _ _ _ _ _ _ hvb]; rfl
  have fz : ∀ k, w.frozen? ⟨vb, k, none⟩ = false := fun k => by simp [World.frozen?, hvb]
  have one : ∀ x ∈ [Value.int .i64 v], x.oneCell' = true := fun x hx => by rw [List.mem_singleton.1 hx]; rfl
  have vals : ∀ (j : Nat) (u : Value), [Value.int .i64 v][j]? = some u → w.cell? ⟨vb, 0 + j, none⟩ = some u := fun j u hu => by
    cases j with
    | zero => simp at hu; subst hu; exact vcell
    | succ j => simp at hu
  have isS : ∀ j, j < n + 1 → (w.cell? ⟨g, j, none⟩).isSome = true := fun j hj => by
    rw [hcl j (xs[j]'(by omega)) (List.getElem?_eq_getElem (by omega))]; rfl
  rcases Nat.lt_or_ge i n with hlt | hge
  · refine (Any2.slices_Insert_int_shift Tryz.insInts g 0 n cap i vb 0 1 1 (xs.take n) [.int .i64 v] w hlt (by omega) (by omega) hm hne (by rw [List.length_take]; omega) rfl (fun j u hu => ?_) (fun j hj => by rw [Nat.zero_add]; exact isS j hj) (fun j _ => hzl _) vals (fun x hx => h1 x (List.mem_of_mem_take hx)) one
      3 3 1 cur.size (by simp [World.shape?, hvb]) (by simp [World.shape?, hcur]) (fun e => ?_) (fz 0) (fz 1)).mono ?_
    · rw [List.getElem?_take] at hu
      split at hu
      · rw [Nat.zero_add]; exact hcl j u hu
      · cases hu
    · have hsm := hcl 0 (xs[0]'(by omega)) (List.getElem?_eq_getElem (by omega))
      rw [cell_of_row _ _ _ _ _ _ hcur] at hsm
      rw [Array.getElem?_eq_none (by omega)] at hsm
      cases hsm
    · rintro e w' ⟨rfl, rfl⟩
      refine ⟨rfl, ?_⟩
      rw [Nat.zero_add, Nat.zero_add]
      have r1 := ownsRow_kp row (Kp.drew (w := w)) (fun _ _ x => x)
      obtain ⟨r2, k2⟩ := ownsRow_setCells ((xs.take n).drop i) (i + 1) r1
      obtain ⟨r3, k3⟩ := ownsRow_setCells [.int .i64 v] i r2
      exact ⟨r3, (Kp.drew (w := w)).no_trans (k2.trans (A' := fun z => z = g) (fun _ e => .inl e) k3)⟩
  · obtain rfl : i = n := by omega
    refine (Any2.slices_Insert_int_end_room Tryz.insInts g 0 i cap vb 0 1 1 [.int .i64 v] w (by omega) (by omega) hm rfl (fun j hj => by rw [Nat.zero_add]; exact isS _ (by omega)) (fun j _ => hzl _) vals one).mono ?_
    rintro e w' ⟨rfl, rfl⟩
    refine ⟨rfl, ?_⟩
    rw [Nat.zero_add]
    have e0 : (xs.take i).drop i = [] := by rw [List.drop_eq_nil_iff, List.length_take]; omega
    rw [e0]
    exact ownsRow_setCells [.int .i64 v] i row

end Go.Proofs.YtngbodmooddjbaaGreat

namespace Go.Proofs.YtngbodmooddjbaaGreat
open Go.RowKit

/-- The list without its entry k, with v at place i. -/
def plO (l : List Nat) (k i v : Nat) : List Nat := (l.eraseIdx k).take i ++ [v] ++ (l.eraseIdx k).drop i
theorem plO_len {l : List Nat} {k i v : Nat} (hk : k < l.length) : (plO l k i v).length = l.length := by
  unfold plO
  rw [List.length_append, List.length_append, List.length_take, List.length_drop, List.length_eraseIdx, if_pos hk, List.length_singleton]
  omega
theorem eraseIdx_parts (l : List Nat) (k : Nat) : l.eraseIdx k = l.take k ++ l.drop (k + 1) := List.eraseIdx_eq_take_drop_succ l k
theorem plO_perm {l : List Nat} {k i v : Nat} (hk : k < l.length) (e : l[k] = v) : (plO l k i v).Perm l := by
  have h1 : (plO l k i v).Perm (v :: l.eraseIdx k) := by
    unfold plO
    rw [List.append_assoc]
    have h2 : ((l.eraseIdx k).take i ++ ([v] ++ (l.eraseIdx k).drop i)).Perm (v :: ((l.eraseIdx k).take i ++ (l.eraseIdx k).drop i)) := List.perm_middle
    rw [List.take_append_drop] at h2
    exact h2
  refine h1.trans ?_
  rw [eraseIdx_parts]
  have h3 : (l.take k ++ (v :: l.drop (k + 1))).Perm (v :: (l.take k ++ l.drop (k + 1))) := List.perm_middle
  refine h3.symm.trans ?_
  rw [← e, List.getElem_cons_drop hk, List.take_append_drop]
theorem PermL.pl {l : List Nat} {k i v : Nat} (h : PermL l) (hk : k < l.length) (e : l[k] = v) : PermL (plO l k i v) := by
  have p := plO_perm (i := i) hk e
  exact ⟨p.nodup_iff.2 h.1, fun u hu => by rw [plO_len hk]; exact h.2 u (p.mem_iff.1 hu)⟩
theorem plO_same {l : List Nat} {k : Nat} (hk : k < l.length) : plO l k k (l[k]) = l := by
  unfold plO
  rw [eraseIdx_parts]
  have h1 : (l.take k ++ l.drop (k + 1)).take k = l.take k := by
    rw [List.take_append_of_le_length (by rw [List.length_take]; omega), List.take_take, Nat.min_self]
  have h2 : (l.take k ++ l.drop (k + 1)).drop k = l.drop (k + 1) := by
    rw [List.drop_append_of_le_length (by rw [List.length_take]; omega), List.drop_eq_nil_of_le (by rw [List.length_take]; omega)]; rfl
  rw [h1, h2, List.append_assoc]
  show l.take k ++ (l[k] :: l.drop (k + 1)) = l
  rw [List.getElem_cons_drop hk, List.take_append_drop]

end Go.Proofs.YtngbodmooddjbaaGreat
