/-
  Walks: 'Exactly' of the package failure.
-/
import Derived.Test.YtohinonkfhkclaaDoorOps
import Derived.Test.YtohinonkfhkclaaDoorQ
import Derived.Test.YtohinonkfhkclaaDoorRep
import Derived.Test.YtohinonkfhkclaaDoorHw6
import Derived.Deep.CutBlock
namespace Go.Proofs.YtohinonkfhkclaaDoor

/-- At most j failures among the links from 12 - i on, and none from L on. -/
def atF (L : Nat) : Nat → Nat → Bfn
  | 0, _ => fun _ => true
  | i + 1, j => fun a => if a (11 - i) then (if 0 < j ∧ 11 - i < L then atF L i (j - 1) a else false) else atF L i j a

theorem atF_rd (L : Nat) : ∀ i j, i ≤ 12 → Rd 0 12 (atF L i j)
  | 0, _, _ => fun _ _ _ => rfl
  | i + 1, j, h => fun a b hab => by
    have h1 := atF_rd L i (j - 1) (by omega) a b hab
    have h2 := atF_rd L i j (by omega) a b hab
    simp only [atF]
    rw [hab (11 - i) (by omega) (by omega), h1, h2]

/-- How many of the links from l on have failed. -/
def fcnt (a : Nat → Bool) : Nat → Nat
  | 0 => 0
  | i + 1 => fcnt a i + if a (11 - i) then 1 else 0
theorem fcnt_le (a : Nat → Bool) : ∀ i, fcnt a i ≤ i
  | 0 => Nat.le_refl _
  | i + 1 => by have := fcnt_le a i; simp only [fcnt]; split <;> omega
theorem atF_eq (L : Nat) (a : Nat → Bool) : ∀ i j, i ≤ 12 → (atF L i j a = true ↔ fcnt a i ≤ j ∧ ∀ v, 12 - i ≤ v → v < 12 → a v = true → v < L)
  | 0, j, _ => ⟨fun _ => ⟨Nat.zero_le _, fun v h1 h2 => by omega⟩, fun _ => rfl⟩
  | i + 1, j, h => by
    have i1 := atF_eq L a i (j - 1) (by omega)
    have i2 := atF_eq L a i j (by omega)
    simp only [atF, fcnt]
    cases ha : a (11 - i)
    · simp only [Bool.false_eq_true, if_false, Nat.add_zero]
      rw [i2]
      refine and_congr_right (fun _ => ⟨fun h v h1 h2 h3 => ?_, fun h v h1 h2 h3 => h v (by omega) h2 h3⟩)
      by_cases e : v = 11 - i
      · subst e; rw [ha] at h3; cases h3
      · exact h v (by omega) h2 h3
    · simp only [if_true]
      by_cases hc : 0 < j ∧ 11 - i < L
      · rw [if_pos hc, i1]
        refine ⟨fun h => ⟨by omega, fun v h1 h2 h3 => ?_⟩, fun h => ⟨by omega, fun v h1 h2 h3 => h.2 v (by omega) h2 h3⟩⟩
        by_cases e : v = 11 - i
        · omega
        · exact h.2 v (by omega) h2 h3
      · rw [if_neg hc]
        constructor
        · intro h; cases h
        · intro h
          have := h.2 (11 - i) (by omega) (by omega) ha
          exact (hc ⟨by omega, this⟩).elim

/-- Exactly the links of T have failed, of the links from 12 - i on. -/
def exF (T : Nat → Bool) : Nat → Bfn
  | 0 => fun _ => true
  | i + 1 => fun a => (if T (11 - i) then a (11 - i) else !a (11 - i)) && exF T i a
theorem exF_rd (T : Nat → Bool) : ∀ i, i ≤ 12 → Rd (12 - i) 12 (exF T i)
  | 0, _ => fun _ _ _ => rfl
  | i + 1, h => fun a b hab => by
    have h1 := exF_rd T i (by omega) a b (fun v h1 h2 => hab v (by omega) h2)
    simp only [exF]
    rw [hab (11 - i) (by omega) (by omega), h1]
theorem exF_eq (T : Nat → Bool) (a : Nat → Bool) : ∀ i, i ≤ 12 → (exF T i a = true ↔ ∀ v, 12 - i ≤ v → v < 12 → a v = T v)
  | 0, _ => ⟨fun _ v h1 h2 => by omega, fun _ => rfl⟩
  | i + 1, h => by
    have ih := exF_eq T a i (by omega)
    simp only [exF, Bool.and_eq_true]
    rw [ih]
    constructor
    · rintro ⟨h1, h2⟩ v h3 h4
      by_cases e : v = 11 - i
      · subst e
        cases ht : T (11 - i) <;> rw [ht] at h1 <;> simpa using h1
      · exact h2 v (by omega) h4
    · intro h1
      refine ⟨?_, fun v h2 h3 => h1 v (by omega) h3⟩
      rw [h1 (11 - i) (by omega) (by omega)]
      cases T (11 - i) <;> rfl
theorem exF_st (T : Nat → Bool) : ∀ i, i ≤ 12 → PSt 220 (exF T i) (1 + 3 * i)
  | 0, _ => PSt.const 220 true
  | i + 1, h => by
    have hv : PSt 220 (fun a => if T (11 - i) then a (11 - i) else !a (11 - i)) 2 := by
      cases T (11 - i)
      · exact (PSt.var 220 (11 - i) (by omega)).not.congr (fun a => by simp)
      · exact (PSt.var 220 (11 - i) (by omega)).congr (fun a => by simp)
    have hr : Rd (11 - i) (11 - i + 1) (fun a => if T (11 - i) then a (11 - i) else !a (11 - i)) := fun a b hab => by
      show (if T (11 - i) then a (11 - i) else !a (11 - i)) = _
      rw [hab (11 - i) (by omega) (by omega)]
    have := PSt.and_above hr (exF_rd T i (by omega)) (by omega) (by omega) (by omega) hv (exF_st T i (by omega))
    exact this.mono (by omega)

end Go.Proofs.YtohinonkfhkclaaDoor

namespace Go.Proofs.YtohinonkfhkclaaDoor
open Go.RowKit

abbrev arr12 (x : Nat → Bool) : Array Value := #[.bool (x 0), .bool (x 1), .bool (x 2), .bool (x 3), .bool (x 4), .bool (x 5), .bool (x 6), .bool (x 7), .bool (x 8), .bool (x 9), .bool (x 10), .bool (x 11)]
theorem arr12_one (x : Nat → Bool) : (arr12 x).all (·.oneCell') = true := by simp [arr12, Value.oneCell']
theorem twelve {k : Nat} (h : k < 12) : k = 0 ∨ k = 1 ∨ k = 2 ∨ k = 3 ∨ k = 4 ∨ k = 5 ∨ k = 6 ∨ k = 7 ∨ k = 8 ∨ k = 9 ∨ k = 10 ∨ k = 11 := by omega
theorem arr12_at (x : Nat → Bool) {k : Nat} (h : k < 12) : (arr12 x)[k]? = some (.bool (x k)) := by
  rcases twelve h with rfl | rfl | rfl | rfl | rfl | rfl | rfl | rfl | rfl | rfl | rfl | rfl <;> rfl
theorem arr12_set (x : Nat → Bool) {k : Nat} (h : k < 12) (v : Bool) : (arr12 x).setIfInBounds k (.bool v) = arr12 (Mgr.upd x k v) := by
  rcases twelve h with rfl | rfl | rfl | rfl | rfl | rfl | rfl | rfl | rfl | rfl | rfl | rfl <;> rfl

/-- An array of marks in memory. -/
structure MkJ (w : World) (b : Nat) (wr : World) (x : Nat → Bool) : Prop where
  arr : wr.heap[b]? = some (.cells (arr12 x) 81 (0, 0))
  kp : Kp No w wr
  nw : w.heap.size ≤ b
section
variable {w wr w' : World} {b : Nat} {x : Nat → Bool}
theorem MkJ.cell (j : MkJ w b wr x) {k : Nat} (hk : k < 12) : wr.cell? ⟨b, k, none⟩ = some (.bool (x k)) ∧ wr.frozen? ⟨b, k, none⟩ = false := by
  refine ⟨?_, by simp [World.frozen?, j.arr]⟩
  rw [cell_of_row _ _ _ _ _ _ j.arr, arr12_at x hk]
theorem MkJ.set (j : MkJ w b wr x) {k : Nat} (hk : k < 12) (v : Bool) : MkJ w b (wr.setCell ⟨b, k, none⟩ (.bool v)) (Mgr.upd x k v) := by
  refine ⟨?_, j.kp.trans (A' := fun y => y = b) (fun y e => .inr (by have := j.nw; omega)) ((Kp.setCell _ _).mono (fun _ _ e => e)), j.nw⟩
  rw [setCell_heap j.arr, arr12_set x hk v]
end

/-- All numbers are links. -/
def okL (l : List Int) : Bool := l.all fun x => decide (0 ≤ x ∧ x < 12)
theorem okL_true {l : List Int} : okL l = true ↔ ∀ k, k < l.length → 0 ≤ l.getD k 0 ∧ l.getD k 0 < 12 := by
  unfold okL
  rw [List.all_eq_true]
  constructor
  · intro h k hk
    have := h (l.getD k 0) (by rw [List.getD_eq_getElem?_getD, List.getElem?_eq_getElem hk]; exact List.getElem_mem hk)
    simpa using this
  · intro h x hx
    obtain ⟨k, hk, rfl⟩ := List.getElem_of_mem hx
    have := h k hk
    rw [List.getD_eq_getElem?_getD, List.getElem?_eq_getElem hk] at this
    simpa using this
theorem okL_bad {l : List Int} {k : Nat} (hk : k < l.length) (h : ¬ (0 ≤ l.getD k 0 ∧ l.getD k 0 < 12)) : okL l = false := by
  cases e : okL l
  · rfl
  · exact (h (okL_true.1 e k hk)).elim
theorem dnF_step (l : List Int) {k : Nat} (hk : k < l.length) {v : Nat} (hx : l.getD k 0 = (v : Int)) : Mgr.upd (dnF (l.take k)) v true = dnF (l.take (k + 1)) := by
  funext u
  have e : l.take (k + 1) = l.take k ++ [l.getD k 0] := by rw [List.take_succ_eq_append_getElem hk]; simp [hk]
  unfold Mgr.upd dnF
  rw [e, hx]
  by_cases h : u = v
  · subst h; simp
  · rw [if_neg h]
    have : ((u : Int) ∈ l.take k ++ [(v : Int)]) ↔ (u : Int) ∈ l.take k := by simp; omega
    simp only [this]

def MkA (w : World) (b : Nat) (l : List Int) (gk : Nat) (s : Value) (wr : World) : Prop := ∃ k, k + gk = l.length ∧ s = .int .i64 (k : Int) ∧ (∀ i, i < k → 0 ≤ l.getD i 0 ∧ l.getD i 0 < 12) ∧ MkJ w b wr (dnF (l.take k))

set_option maxRecDepth 100000 in
set_option maxHeartbeats 4000000 in
theorem marks_ok (l : List Int) (hl : l.length ≤ 1000000) {dv : Value} {w : World} (hd : SrcAt w dv 1 l.length (l.map intV)) :
    Calls Tryd.prog 43 #[dv] w fun e w' => e = .returned (.tuple #[.agg (arr12 (if okL l then dnF l else fun _ => false)), .bool (okL l)]) ∧ Kp No w w' := by
  have HD := Lib.hid hd
  obtain ⟨ao, cp, rfl, hdd⟩ := hd
  clear hdd
  obtain ⟨ok, hok⟩ : ∃ b, okL l = b := ⟨_, rfl⟩
  rw [hok]
  have OKL := Lib.hid hok
  clear hok
  have KA : Hid (Kp No w (w.alloc (.cells #[.bool false, .bool false, .bool false, .bool false, .bool false, .bool false, .bool false, .bool false, .bool false, .bool false, .bool false, .bool false] 81))) := Lib.hid (Kp.alloc _)
  have HS : Hid ((w.alloc (.cells #[.bool false, .bool false, .bool false, .bool false, .bool false, .bool false, .bool false, .bool false, .bool false, .bool false, .bool false, .bool false] 81)).heap.size = w.heap.size + 1) := Lib.hid (by simp)
  have J0 : Hid (MkA (w.alloc (.cells #[.bool false, .bool false, .bool false, .bool false, .bool false, .bool false, .bool false, .bool false, .bool false, .bool false, .bool false, .bool false] 81)) (w.heap.size + 1) l l.length (.int .i64 0) ((w.alloc (.cells #[.bool false, .bool false, .bool false, .bool false, .bool false, .bool false, .bool false, .bool false, .bool false, .bool false, .bool false, .bool false] 81)).alloc (.cells #[.bool false, .bool false, .bool false, .bool false, .bool false, .bool false, .bool false, .bool false, .bool false, .bool false, .bool false, .bool false] 81))) := Lib.hid ⟨0, by omega, rfl, fun i h => by omega, by rw [← HS.out]; exact heap_alloc_new _ _, Kp.alloc _, by rw [HS.out]; exact Nat.le_refl _⟩
  have BR : Hid ((w.alloc (.cells #[.bool false, .bool false, .bool false, .bool false, .bool false, .bool false, .bool false, .bool false, .bool false, .bool false, .bool false, .bool false] 81)).heap[w.heap.size]? = some (.cells #[.bool false, .bool false, .bool false, .bool false, .bool false, .bool false, .bool false, .bool false, .bool false, .bool false, .bool false, .bool false] 81 (0, 0))) := Lib.hid (heap_alloc_new _ _)
  go_enter Tryd.func43, Tryd.ntmps43
  go_wp2_with fail

  go_loopg [9] l.length (fun gk s wr => MkA (w.alloc (.cells #[.bool false, .bool false, .bool false, .bool false, .bool false, .bool false, .bool false, .bool false, .bool false, .bool false, .bool false, .bool false] 81)) (w.heap.size + 1) l gk s wr)
  case atStart => exact J0.out
  case round =>
    clear J0
    obtain ⟨k, hk, rfl, hin, j⟩ := hrel
    by_cases hlt : k < l.length
    · have kw : Kp No w wr := KA.out.trans_no j.kp
      obtain ⟨ao', c', hv', _, hcells⟩ := HD.out.no kw
      have hv1 : ao = ao' := by injection hv'
      subst hv1
      rcases hcells with hcells | ⟨g, o, rfl, hg, hcells⟩
      · rw [hcells] at hlt; simp at hlt
      have hc : wr.cell? ⟨g, o + k, none⟩ = some (.int .i64 (l.getD k 0)) := hcells k _ (by simp [hlt, intV])
      have hlti : (k : Int) < l.length := by omega
      have HK := Lib.hid hk
      by_cases hx : 0 ≤ l.getD k 0 ∧ l.getD k 0 < 12
      · obtain ⟨v, hv⟩ : ∃ v : Nat, l.getD k 0 = (v : Int) := ⟨(l.getD k 0).toNat, by omega⟩
        have hv12 : v < 12 := by omega
        obtain ⟨c1, z1⟩ := j.cell (k := v) hv12
        have JN : Hid (MkA (w.alloc (.cells #[.bool false, .bool false, .bool false, .bool false, .bool false, .bool false, .bool false, .bool false, .bool false, .bool false, .bool false, .bool false] 81)) (w.heap.size + 1) l (l.length - (k + 1)) (.int .i64 ((k + 1 : Nat) : Int)) (wr.setCell ⟨w.heap.size + 1, v, none⟩ (.bool true))) := Lib.hid ⟨k + 1, by omega, rfl, fun i hi => by
          by_cases e : i = k
          · subst e; exact hx
          · exact hin i (by omega), by
          have := j.set hv12 true
          rw [dnF_step l hlt hv] at this
          exact this⟩
        rw [hv] at hc
        have hvi : (v : Int) < 12 := by omega
        have hv0 : (0 : Int) ≤ (v : Int) := by omega
        generalize dnF (l.take k) v = old at *
        clear hk j kw hcells hx hv hv' hin
        go_wp2_with fail
        go_roundg (l.length - (k + 1))
        case measure => have := HK.out; omega
        case rel => exact JN.out
      · obtain rfl : ok = false := OKL.out.symm.trans (okL_bad hlt hx)
        have KW := Lib.hid kw
        have br := BR.out
        rw [← j.kp.block _ (heap_lt br) (fun x => x)] at br
        have BRW := Lib.hid br
        have hx' : 0 ≤ l.getD k 0 → ¬ l.getD k 0 < 12 := fun h h2 => hx ⟨h, h2⟩
        generalize l.getD k 0 = y at *
        clear hk j kw hcells hx hv' hin br
        by_cases h0 : 0 ≤ y
        · have h1 := hx' h0
          clear hx'
          go_upto_region 6 with fail
          go_wp2_with (first | (refine wpList_store_arr rfl _ _ _ rfl w.heap.size (arr12 (fun _ => false)) ?_ ?_ 81 _ BRW.out ?_ ?_ (arr12_one _) ?_; rfl; rfl; kernel_rfl; rfl; intro w2 hw2 kw2))
          have HW2 := Lib.hid hw2
          have KW2 : Hid (Kp No w w2) := Lib.hid (KW.out.trans (A' := fun b => b = w.heap.size) (fun b e => .inr (by omega)) kw2)
          clear hw2 kw2
          have r0 : w2.cell? ⟨w.heap.size, 0, none⟩ = some (.bool ((fun _ => false : Nat → Bool) 0)) := by rw [cell_of_row _ _ _ _ _ _ HW2.out]; rfl
          have r1 : w2.cell? ⟨w.heap.size, 1, none⟩ = some (.bool ((fun _ => false : Nat → Bool) 1)) := by rw [cell_of_row _ _ _ _ _ _ HW2.out]; rfl
          have r2 : w2.cell? ⟨w.heap.size, 2, none⟩ = some (.bool ((fun _ => false : Nat → Bool) 2)) := by rw [cell_of_row _ _ _ _ _ _ HW2.out]; rfl
          have r3 : w2.cell? ⟨w.heap.size, 3, none⟩ = some (.bool ((fun _ => false : Nat → Bool) 3)) := by rw [cell_of_row _ _ _ _ _ _ HW2.out]; rfl
          have r4 : w2.cell? ⟨w.heap.size, 4, none⟩ = some (.bool ((fun _ => false : Nat → Bool) 4)) := by rw [cell_of_row _ _ _ _ _ _ HW2.out]; rfl
          have r5 : w2.cell? ⟨w.heap.size, 5, none⟩ = some (.bool ((fun _ => false : Nat → Bool) 5)) := by rw [cell_of_row _ _ _ _ _ _ HW2.out]; rfl
          have r6 : w2.cell? ⟨w.heap.size, 6, none⟩ = some (.bool ((fun _ => false : Nat → Bool) 6)) := by rw [cell_of_row _ _ _ _ _ _ HW2.out]; rfl
          have r7 : w2.cell? ⟨w.heap.size, 7, none⟩ = some (.bool ((fun _ => false : Nat → Bool) 7)) := by rw [cell_of_row _ _ _ _ _ _ HW2.out]; rfl
          have r8 : w2.cell? ⟨w.heap.size, 8, none⟩ = some (.bool ((fun _ => false : Nat → Bool) 8)) := by rw [cell_of_row _ _ _ _ _ _ HW2.out]; rfl
          have r9 : w2.cell? ⟨w.heap.size, 9, none⟩ = some (.bool ((fun _ => false : Nat → Bool) 9)) := by rw [cell_of_row _ _ _ _ _ _ HW2.out]; rfl
          have r10 : w2.cell? ⟨w.heap.size, 10, none⟩ = some (.bool ((fun _ => false : Nat → Bool) 10)) := by rw [cell_of_row _ _ _ _ _ _ HW2.out]; rfl
          have r11 : w2.cell? ⟨w.heap.size, 11, none⟩ = some (.bool ((fun _ => false : Nat → Bool) 11)) := by rw [cell_of_row _ _ _ _ _ _ HW2.out]; rfl
          refine bodyPost_ret (v := .tuple #[.agg (arr12 (fun _ => false)), .bool false]) ?_ rfl ⟨rfl, ?_⟩
          · simp [results, Tryd.results43, go_sem, r0, r1, r2, r3, r4, r5, r6, r7, r8, r9, r10, r11]
          · exact KW2.out
        · clear hx'
          go_upto_region 6 with fail
          go_wp2_with (first | (refine wpList_store_arr rfl _ _ _ rfl w.heap.size (arr12 (fun _ => false)) ?_ ?_ 81 _ BRW.out ?_ ?_ (arr12_one _) ?_; rfl; rfl; kernel_rfl; rfl; intro w2 hw2 kw2))
          have HW2 := Lib.hid hw2
          have KW2 : Hid (Kp No w w2) := Lib.hid (KW.out.trans (A' := fun b => b = w.heap.size) (fun b e => .inr (by omega)) kw2)
          clear hw2 kw2
          have r0 : w2.cell? ⟨w.heap.size, 0, none⟩ = some (.bool ((fun _ => false : Nat → Bool) 0)) := by rw [cell_of_row _ _ _ _ _ _ HW2.out]; rfl
          have r1 : w2.cell? ⟨w.heap.size, 1, none⟩ = some (.bool ((fun _ => false : Nat → Bool) 1)) := by rw [cell_of_row _ _ _ _ _ _ HW2.out]; rfl
          have r2 : w2.cell? ⟨w.heap.size, 2, none⟩ = some (.bool ((fun _ => false : Nat → Bool) 2)) := by rw [cell_of_row _ _ _ _ _ _ HW2.out]; rfl
          have r3 : w2.cell? ⟨w.heap.size, 3, none⟩ = some (.bool ((fun _ => false : Nat → Bool) 3)) := by rw [cell_of_row _ _ _ _ _ _ HW2.out]; rfl
          have r4 : w2.cell? ⟨w.heap.size, 4, none⟩ = some (.bool ((fun _ => false : Nat → Bool) 4)) := by rw [cell_of_row _ _ _ _ _ _ HW2.out]; rfl
          have r5 : w2.cell? ⟨w.heap.size, 5, none⟩ = some (.bool ((fun _ => false : Nat → Bool) 5)) := by rw [cell_of_row _ _ _ _ _ _ HW2.out]; rfl
          have r6 : w2.cell? ⟨w.heap.size, 6, none⟩ = some (.bool ((fun _ => false : Nat → Bool) 6)) := by rw [cell_of_row _ _ _ _ _ _ HW2.out]; rfl
          have r7 : w2.cell? ⟨w.heap.size, 7, none⟩ = some (.bool ((fun _ => false : Nat → Bool) 7)) := by rw [cell_of_row _ _ _ _ _ _ HW2.out]; rfl
          have r8 : w2.cell? ⟨w.heap.size, 8, none⟩ = some (.bool ((fun _ => false : Nat → Bool) 8)) := by rw [cell_of_row _ _ _ _ _ _ HW2.out]; rfl
          have r9 : w2.cell? ⟨w.heap.size, 9, none⟩ = some (.bool ((fun _ => false : Nat → Bool) 9)) := by rw [cell_of_row _ _ _ _ _ _ HW2.out]; rfl
          have r10 : w2.cell? ⟨w.heap.size, 10, none⟩ = some (.bool ((fun _ => false : Nat → Bool) 10)) := by rw [cell_of_row _ _ _ _ _ _ HW2.out]; rfl
          have r11 : w2.cell? ⟨w.heap.size, 11, none⟩ = some (.bool ((fun _ => false : Nat → Bool) 11)) := by rw [cell_of_row _ _ _ _ _ _ HW2.out]; rfl
          refine bodyPost_ret (v := .tuple #[.agg (arr12 (fun _ => false)), .bool false]) ?_ rfl ⟨rfl, ?_⟩
          · simp [results, Tryd.results43, go_sem, r0, r1, r2, r3, r4, r5, r6, r7, r8, r9, r10, r11]
          · exact KW2.out
    · obtain rfl : k = l.length := by omega
      obtain rfl : ok = true := OKL.out.symm.trans (okL_true.2 hin)
      rw [List.take_length] at j
      have hlti : ¬ (l.length : Int) < l.length := by omega
      have KW := Lib.hid (KA.out.trans_no j.kp)
      have br := BR.out
      rw [← j.kp.block _ (heap_lt br) (fun x => x)] at br
      have BRW := Lib.hid br
      have AR := Lib.hid j.arr
      clear hk j hin br hlt HD
      go_upto_region 9 with fail
      go_wp2_with (first | (refine wpList_store_arr rfl _ _ _ rfl w.heap.size (arr12 (dnF l)) ?_ ?_ 81 _ BRW.out ?_ ?_ (arr12_one _) ?_; rfl; rfl; kernel_rfl; rfl; intro w2 hw2 kw2) | (refine wpList_load_row rfl 81 _ rfl (w.heap.size + 1) ?_ 81 (arr12 (dnF l)) (0, 0) _ AR.out Tryd.underlying81 ?_ ?_ ?_; rfl; rfl; kernel_rfl))
      have HW2 := Lib.hid hw2
      have KW2 : Hid (Kp No w w2) := Lib.hid (KW.out.trans (A' := fun b => b = w.heap.size) (fun b e => .inr (by omega)) kw2)
      clear hw2 kw2
      have r0 : w2.cell? ⟨w.heap.size, 0, none⟩ = some (.bool (dnF l 0)) := by rw [cell_of_row _ _ _ _ _ _ HW2.out]; rfl
      have r1 : w2.cell? ⟨w.heap.size, 1, none⟩ = some (.bool (dnF l 1)) := by rw [cell_of_row _ _ _ _ _ _ HW2.out]; rfl
      have r2 : w2.cell? ⟨w.heap.size, 2, none⟩ = some (.bool (dnF l 2)) := by rw [cell_of_row _ _ _ _ _ _ HW2.out]; rfl
      have r3 : w2.cell? ⟨w.heap.size, 3, none⟩ = some (.bool (dnF l 3)) := by rw [cell_of_row _ _ _ _ _ _ HW2.out]; rfl
      have r4 : w2.cell? ⟨w.heap.size, 4, none⟩ = some (.bool (dnF l 4)) := by rw [cell_of_row _ _ _ _ _ _ HW2.out]; rfl
      have r5 : w2.cell? ⟨w.heap.size, 5, none⟩ = some (.bool (dnF l 5)) := by rw [cell_of_row _ _ _ _ _ _ HW2.out]; rfl
      have r6 : w2.cell? ⟨w.heap.size, 6, none⟩ = some (.bool (dnF l 6)) := by rw [cell_of_row _ _ _ _ _ _ HW2.out]; rfl
      have r7 : w2.cell? ⟨w.heap.size, 7, none⟩ = some (.bool (dnF l 7)) := by rw [cell_of_row _ _ _ _ _ _ HW2.out]; rfl
      have r8 : w2.cell? ⟨w.heap.size, 8, none⟩ = some (.bool (dnF l 8)) := by rw [cell_of_row _ _ _ _ _ _ HW2.out]; rfl
      have r9 : w2.cell? ⟨w.heap.size, 9, none⟩ = some (.bool (dnF l 9)) := by rw [cell_of_row _ _ _ _ _ _ HW2.out]; rfl
      have r10 : w2.cell? ⟨w.heap.size, 10, none⟩ = some (.bool (dnF l 10)) := by rw [cell_of_row _ _ _ _ _ _ HW2.out]; rfl
      have r11 : w2.cell? ⟨w.heap.size, 11, none⟩ = some (.bool (dnF l 11)) := by rw [cell_of_row _ _ _ _ _ _ HW2.out]; rfl
      refine bodyPost_ret (v := .tuple #[.agg (arr12 (dnF l)), .bool true]) ?_ rfl ⟨rfl, ?_⟩
      · simp [results, Tryd.results43, go_sem, r0, r1, r2, r3, r4, r5, r6, r7, r8, r9, r10, r11]
      · exact KW2.out

end Go.Proofs.YtohinonkfhkclaaDoor

namespace Go.Proofs.YtohinonkfhkclaaDoor
open Go.RowKit

def ExO (w0 : World) (p : Nat) (L0 : Lay) (c : Nat) (B : List (Int × Bfn)) (T : Nat → Bool) (gk : Nat) (s7 s8 : Value) (wr : World) : Prop :=
  ∃ f M L, gk ≤ 12 ∧ s7 = .int .i64 f ∧ s8 = .int .i64 ((gk : Int) - 1) ∧ Hf w0 p L0 220 (c + (12 - gk) * 20000) wr M L ((f, exF T (12 - gk)) :: B)

set_option maxRecDepth 100000 in
set_option maxHeartbeats 4000000 in
theorem Exactly_bad (l : List Int) (hl : l.length ≤ 1000000) (hok : okL l = false) (p : Nat) {dv : Value} {w : World} (hd : SrcAt w dv 1 l.length (l.map intV)) :
    Calls Tryd.prog 14 #[ptr p, dv] w fun e w' => e = .returned (.int .i64 (-1)) ∧ Kp No w w' := by
  have MK := Lib.hid (marks_ok l hl hd)
  rw [hok] at MK
  obtain ⟨ao, cp, rfl, _⟩ := hd
  clear hok hl
  go_enter Tryd.func14, Tryd.ntmps14
  go_wp2_with fail
  refine MK.out.mono ?_
  rintro e w1 ⟨rfl, k1⟩
  have K1 := Lib.hid k1
  have BX : Hid ((w1.alloc (.cells #[.bool false, .bool false, .bool false, .bool false, .bool false, .bool false, .bool false, .bool false, .bool false, .bool false, .bool false, .bool false] 81)).heap[w1.heap.size]? = some (.cells #[.bool false, .bool false, .bool false, .bool false, .bool false, .bool false, .bool false, .bool false, .bool false, .bool false, .bool false, .bool false] 81 (0, 0))) := Lib.hid (heap_alloc_new _ _)
  have KA : Hid (Kp No w1 (w1.alloc (.cells #[.bool false, .bool false, .bool false, .bool false, .bool false, .bool false, .bool false, .bool false, .bool false, .bool false, .bool false, .bool false] 81))) := Lib.hid (Kp.alloc _)
  clear k1 MK
  simp only [Bool.false_eq_true, if_false]
  go_wp2_with (refine wpList_store_arr rfl _ _ _ rfl w1.heap.size (arr12 (fun _ => false)) ?_ ?_ 81 _ BX.out ?_ ?_ (arr12_one _) ?_; rfl; rfl; kernel_rfl; rfl; intro w2 hw2 kw2)
  have K2 : Hid (Kp No w w2) := Lib.hid (K1.out.trans_no (KA.out.trans (A' := fun b => b = w1.heap.size) (fun b e => .inr (by omega)) kw2))
  clear hw2 kw2
  go_ret
  exact ⟨rfl, K2.out⟩

set_option maxRecDepth 100000 in
set_option maxHeartbeats 4000000 in
theorem Exactly_ok {p c : Nat} {M : Mgr} {L : Lay} {B : List (Int × Bfn)} (l : List Int) (hl : l.length ≤ 1000000) (hok : okL l = true) {dv : Value} {w : World} (R : Rep w p M L) (q : Qk 220 c M B) (g : Gl w) (ho : ¬ L.at p 0) (hd : SrcAt w dv 1 l.length (l.map intV)) (hc : c ≤ 500000000000) :
    Calls Tryd.prog 14 #[ptr p, dv] w (OpQ p 220 (c + 300000) L w (exF (dnF l) 12) B) := by
  have MK := Lib.hid (marks_ok l hl hd)
  rw [hok] at MK
  have HLT := Lib.hid (fun k h => R.lt k h)
  have H0 := Lib.hid (Hf.start R q g ho)
  obtain ⟨ao, cp, rfl, _⟩ := hd
  obtain ⟨T, hT⟩ : ∃ T, dnF l = T := ⟨_, rfl⟩
  simp only [if_true] at MK
  rw [hT] at MK ⊢
  clear hok hl hT R q g ho
  go_enter Tryd.func14, Tryd.ntmps14
  go_wp2_with fail
  refine MK.out.mono ?_
  rintro e w1 ⟨rfl, k1⟩
  have K1 := Lib.hid k1
  have BX : Hid ((w1.alloc (.cells #[.bool false, .bool false, .bool false, .bool false, .bool false, .bool false, .bool false, .bool false, .bool false, .bool false, .bool false, .bool false] 81)).heap[w1.heap.size]? = some (.cells #[.bool false, .bool false, .bool false, .bool false, .bool false, .bool false, .bool false, .bool false, .bool false, .bool false, .bool false, .bool false] 81 (0, 0))) := Lib.hid (heap_alloc_new _ _)
  have KA : Hid (Kp No w1 (w1.alloc (.cells #[.bool false, .bool false, .bool false, .bool false, .bool false, .bool false, .bool false, .bool false, .bool false, .bool false, .bool false, .bool false] 81))) := Lib.hid (Kp.alloc _)
  clear k1 MK
  go_wp2_with (refine wpList_store_arr rfl _ _ _ rfl w1.heap.size (arr12 T) ?_ ?_ 81 _ BX.out ?_ ?_ (arr12_one _) ?_; rfl; rfl; kernel_rfl; rfl; intro w2 hw2 kw2)
  have k2 : Kp No w w2 := K1.out.trans_no (KA.out.trans (A' := fun b => b = w1.heap.size) (fun b e => .inr (by omega)) kw2)
  have K2 := Lib.hid k2
  have H2 := Lib.hid (H0.out.no k2).rebase
  have NB : Hid (¬ L.at p w1.heap.size) := Lib.hid (fun h => by have := HLT.out _ h; have := K1.out.size; omega)
  have CL : Hid (∀ y, Kp (L.at p) w2 y → ∀ k, k < 12 → y.cell? ⟨w1.heap.size, k, none⟩ = some (.bool (T k))) := Lib.hid (fun y k i hi => by
    have bx := hw2
    rw [← k.block _ (heap_lt bx) NB.out] at bx
    rw [cell_of_row _ _ _ _ _ _ bx, arr12_at T hi])
  have J0 : Hid (ExO w2 p L c B T 12 (.int .i64 1) (.int .i64 11) w2) := Lib.hid (by
    refine ⟨1, M, L, by omega, rfl, rfl, ?_⟩
    have h := H2.out.consts
    rw [show 12 - 12 = 0 from rfl, Nat.zero_mul, Nat.add_zero]
    exact h.sub (fun x hx => by
      rcases List.mem_cons.1 hx with rfl | hx
      · exact .tail _ (.head _)
      · exact .tail _ (.tail _ hx)))
  have VF := Lib.hid (fun (k : Nat) (hk : k < 12) (y : World) => Failure_ok (k : Int) y)
  have ST := Lib.hid (fun i (h : i ≤ 12) => exF_st T i h)
  have CC := Lib.hid hc
  clear hw2 kw2 k2 H0 H2 K1 BX KA hc
  generalize w1.heap.size = b at *
  go_loopg [7, 8] 12 (fun gk s7 s8 wr => ExO w2 p L c B T gk s7 s8 wr)
  case atStart => exact J0.out
  case round =>
    clear J0
    obtain ⟨f, M1, L1, hg12, rfl, rfl, h⟩ := hrel
    by_cases hlt : 0 < gk
    · obtain ⟨k, rfl⟩ : ∃ k, gk = k + 1 := ⟨gk - 1, by omega⟩
      have hk : k < 12 := by omega
      have hki : ((k + 1 : Nat) : Int) - 1 = (k : Int) := by omega
      rw [hki]
      have hk0 : (0 : Int) ≤ (k : Int) := by omega
      have hk12 : (k : Int) < 12 := by omega
      have cb := CL.out _ h.sd.kp k hk
      have FK := Lib.hid (VF.out k hk wr)
      rw [if_pos (by omega)] at FK
      have SE : Hid (∀ a, exF T (12 - k) a = ((if T k then a k else !a k) && exF T (12 - (k + 1)) a)) := Lib.hid (fun a => by
        obtain ⟨i, hi⟩ : ∃ i, 12 - (k + 1) = i := ⟨_, rfl⟩
        rw [hi, show 12 - k = i + 1 by omega]
        simp only [exF]
        rw [show 11 - i = k by omega])
      have S2 := Lib.hid (ST.out (12 - k) (by omega))
      have H1 := Lib.hid h
      have HK := Lib.hid (And.intro hk hg12)
      have EC : Hid (c + (12 - (k + 1)) * 20000 + 20000 = c + (12 - k) * 20000 ∧ (12 - k) * 20000 ≤ 240000) := Lib.hid (by omega)
      clear h hg12 hki
      generalize hT : T k = tk at *
      generalize exF T (12 - (k + 1)) = F1 at *
      obtain ⟨F2, hF2⟩ : ∃ F2, exF T (12 - k) = F2 := ⟨_, rfl⟩
      rw [hF2] at SE S2
      have E2 : Hid (exF T (12 - k) = F2) := Lib.hid hF2
      generalize c + (12 - (k + 1)) * 20000 = c1 at *
      go_wp2_with fail
      refine FK.out.mono ?_
      rintro e w' ⟨rfl, rfl⟩
      clear FK
      go_wp2_with fail
      refine (VarQ H1.out.rep H1.out.qk (v := k) (by omega) (by have := EC.out; have := CC.out; omega)).mono ?_
      intro e w3 h3
      obtain ⟨rx, M2, L2, rfl, hx0, f3⟩ := H1.out.step h3
      have H3 := Lib.hid f3
      have cb := CL.out _ f3.sd.kp k hk
      rw [hT] at cb
      clear h3 f3 H1
      have SQ : Hid (PSt 220 (fun a => (if tk then a k else !a k) && F1 a) (1 + 3 * (12 - k))) := Lib.hid (S2.out.congr (fun a => (SE.out a).symm))
      cases tk
      · go_wp2_with fail
        refine (NotQ H3.out.rep H3.out.qk (.head _) (PSt.var 220 k (by omega)) (by have := EC.out; have := CC.out; omega)).mono ?_
        intro e w4 h4
        obtain ⟨rn, M3, L3, rfl, hn0, f4⟩ := H3.out.step h4
        have H4 := Lib.hid f4
        clear h4 f4 H3
        go_wp2_with fail
        refine (AndQ H4.out.rep H4.out.qk (.head _) (.tail _ (.tail _ (.head _))) (s := 40) ((SQ.out.congr (fun a => by simp)).mono (by omega)) (by have := EC.out; have := CC.out; omega)).mono ?_
        intro e w5 h5
        obtain ⟨rf, M4, L4, rfl, hf0, f5⟩ := H4.out.step h5
        have JN : Hid (ExO w2 p L c B T k (.int .i64 rf) (.int .i64 ((k : Int) - 1)) w5) := Lib.hid (by
          refine ⟨rf, M4, L4, by have := HK.out; omega, rfl, rfl, ?_⟩
          rw [E2.out]
          refine ((f5.cong (G := F2) (fun a => ?_)).mono (by have := EC.out; omega)).sub (fun z hz => ?_)
          · rw [SE.out]; simp
          · rcases List.mem_cons.1 hz with rfl | hz
            · exact .head _
            · exact .tail _ (.tail _ (.tail _ (.tail _ hz))))
        clear h5 f5 H4
        go_wp2_with fail
        go_roundg k
        case measure => omega
        case rel => exact JN.out
      · go_wp2_with fail
        refine (AndQ H3.out.rep H3.out.qk (.head _) (.tail _ (.head _)) (s := 40) ((SQ.out.congr (fun a => by simp)).mono (by omega)) (by have := EC.out; have := CC.out; omega)).mono ?_
        intro e w5 h5
        obtain ⟨rf, M4, L4, rfl, hf0, f5⟩ := H3.out.step h5
        have JN : Hid (ExO w2 p L c B T k (.int .i64 rf) (.int .i64 ((k : Int) - 1)) w5) := Lib.hid (by
          refine ⟨rf, M4, L4, by have := HK.out; omega, rfl, rfl, ?_⟩
          rw [E2.out]
          refine ((f5.cong (G := F2) (fun a => ?_)).mono (by have := EC.out; omega)).sub (fun z hz => ?_)
          · rw [SE.out]; simp
          · rcases List.mem_cons.1 hz with rfl | hz
            · exact .head _
            · exact .tail _ (.tail _ (.tail _ hz)))
        clear h5 f5 H3
        go_wp2_with fail
        go_roundg k
        case measure => omega
        case rel => exact JN.out
    · obtain rfl : gk = 0 := by omega
      have FIN : Hid (OpQ p 220 (c + 300000) L w (exF T 12) B (.returned (.int .i64 f)) wr) := Lib.hid (OpQ.before K2.out (h.ret (.head _) (fun x hx => .tail _ hx) (by omega)))
      clear h hg12 hlt
      go_wp2_with fail
      go_ret
      exact FIN.out

end Go.Proofs.YtohinonkfhkclaaDoor
