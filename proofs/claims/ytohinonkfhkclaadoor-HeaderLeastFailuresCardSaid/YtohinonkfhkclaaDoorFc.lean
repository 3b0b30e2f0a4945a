/-
  Plain mathematics: the sets of at most two of the links, in order; lists of lists in memory.
-/
import Derived.Test.YtohinonkfhkclaaDoorHw6
import Derived.Test.YtohinonkfhkclaaDoorFe
import Derived.Test.YtohinonkfhkclaaDoorSup
namespace Go.Proofs.YtohinonkfhkclaaDoor
open Go.RowKit

def nRow (n : Nat) (f : Nat → Nat) : List Value := (List.range n).map fun u => natV (f u)
theorem nRow_len (n : Nat) (f : Nat → Nat) : (nRow n f).length = n := by simp [nRow]
theorem nRow_at {n : Nat} (f : Nat → Nat) {j : Nat} (h : j < n) : (nRow n f)[j]? = some (natV (f j)) := by simp [nRow, h]
theorem nRow_congr {n : Nat} {f g : Nat → Nat} (h : ∀ j, j < n → f j = g j) : nRow n f = nRow n g := by
  unfold nRow
  apply List.map_congr_left
  intro j hj
  rw [h j (List.mem_range.1 hj)]
theorem nRow_set {n : Nat} (f : Nat → Nat) (j x : Nat) : (nRow n f).set j (natV x) = nRow n (fun u => if u = j then x else f u) := by
  apply List.ext_getElem?
  intro u
  by_cases hu : u < n
  · rw [nRow_at _ hu]
    by_cases e : j = u
    · subst e; rw [List.getElem?_set_self (by rw [nRow_len]; omega), if_pos rfl]
    · rw [List.getElem?_set_ne e, nRow_at _ hu, if_neg (Ne.symm e)]
  · rw [List.getElem?_eq_none (by rw [List.length_set, nRow_len]; omega), List.getElem?_eq_none (by rw [nRow_len]; omega)]
theorem nRow_list (l : List Nat) : l.map natV = nRow l.length (fun u => l.getD u 0) := by
  apply List.ext_getElem?
  intro u
  by_cases hu : u < l.length
  · rw [nRow_at _ hu]; simp [hu]
  · rw [List.getElem?_eq_none (by simpa using hu), List.getElem?_eq_none (by rw [nRow_len]; omega)]
theorem nRow_cell {wr : World} {b0 g n cap : Nat} {f : Nat → Nat} (h : wr.ownsRow b0 3 1 (.slice (some ⟨g, 0, none⟩) n cap) n (nRow n f)) {j : Nat} (hj : j < n) : wr.cell? ⟨g, j, none⟩ = some (.int .i64 (f j : Int)) ∧ wr.frozen? ⟨g, j, none⟩ = false := by
  obtain ⟨g', c, hq, _, _, _, hc, hz⟩ := ownsRow_open h (by omega)
  cases hq
  exact ⟨hc j _ (nRow_at f hj), hz j⟩

/-- The greatest index below i whose number can grow. -/
def advI (L n : Nat) (f : Nat → Nat) : Nat → Option Nat
  | 0 => none
  | i + 1 => if f i + (n - i) < L then some i else advI L n f i
def advF (f : Nat → Nat) (i u : Nat) : Nat := if u < i then f u else f i + 1 + (u - i)
theorem advI_lt (L n : Nat) (f : Nat → Nat) : ∀ k i, advI L n f k = some i → i < k
  | 0, _, h => by cases h
  | k + 1, i, h => by
    simp only [advI] at h
    split at h
    · injection h with h; omega
    · have := advI_lt L n f k i h; omega

def AdvPost (w : World) (g b0 n cap L : Nat) (f : Nat → Nat) (e : Ending) (w' : World) : Prop :=
  Kp (fun k => k = g) w w' ∧ match advI L n f n with
  | none => e = .returned (.bool false) ∧ w'.ownsRow b0 3 1 (.slice (some ⟨g, 0, none⟩) n cap) n (nRow n f)
  | some i => e = .returned (.bool true) ∧ w'.ownsRow b0 3 1 (.slice (some ⟨g, 0, none⟩) n cap) n (nRow n (advF f i))

def AdR (w : World) (g b0 n cap L : Nat) (f : Nat → Nat) (gk : Nat) (s5 : Value) (wr : World) : Prop :=
  gk ≤ n ∧ s5 = .int .i64 ((gk : Int) - 1) ∧ advI L n f n = advI L n f gk ∧ wr.ownsRow b0 3 1 (.slice (some ⟨g, 0, none⟩) n cap) n (nRow n f) ∧ Kp (fun k => k = g) w wr
def AdI (w : World) (g b0 n cap i : Nat) (f : Nat → Nat) (gk : Nat) (s6 : Value) (wr : World) : Prop :=
  ∃ k, k + gk = n ∧ i < k ∧ s6 = .int .i64 (k : Int) ∧ wr.ownsRow b0 3 1 (.slice (some ⟨g, 0, none⟩) n cap) n (nRow n fun u => if u < k then advF f i u else f u) ∧ Kp (fun k => k = g) w wr

set_option maxRecDepth 100000 in
set_option maxHeartbeats 4000000 in
theorem advance_ok (g b0 n cap L : Nat) (f : Nat → Nat) (hn : n ≤ 1000) (hL : L ≤ 1000) (hf : ∀ u, u < n → f u ≤ 1000) {w : World} (row : w.ownsRow b0 3 1 (.slice (some ⟨g, 0, none⟩) n cap) n (nRow n f)) :
    Calls Tryd.prog 48 #[.slice (some ⟨g, 0, none⟩) n cap, .int .i64 (L : Int)] w (AdvPost w g b0 n cap L f) := by
  obtain ⟨r, hr⟩ : ∃ r, advI L n f n = r := ⟨_, rfl⟩
  have J0 : Hid (AdR w g b0 n cap L f n (.int .i64 ((n : Int) - 1)) w) := Lib.hid ⟨Nat.le_refl _, rfl, rfl, row, Kp.refl _ _⟩
  have HR := Lib.hid hr
  have HF := Lib.hid hf
  unfold AdvPost
  rw [hr]
  clear row hr hf
  go_enter Tryd.func48, Tryd.ntmps48
  go_wp2_with fail
  go_loopg [5] n (fun gk s wr => AdR w g b0 n cap L f gk s wr)
  case atStart => exact J0.out
  case round =>
    clear J0
    obtain ⟨hgn, rfl, hav, row, kp⟩ := hrel
    by_cases hgt : 0 < gk
    · obtain ⟨i, rfl⟩ : ∃ i, gk = i + 1 := ⟨gk - 1, by omega⟩
      have hin : i < n := by omega
      have hji : ((i + 1 : Nat) : Int) - 1 = (i : Int) := by omega
      rw [hji]
      have hj0 : (0 : Int) ≤ (i : Int) := by omega
      have hini : (i : Int) < (n : Int) := by omega
      obtain ⟨ci, zi⟩ := nRow_cell row hin
      have hfi := HF.out i hin
      have ROW := Lib.hid row
      have KP := Lib.hid kp
      simp only [advI] at hav
      by_cases hc : f i + (n - i) < L
      · rw [if_pos hc] at hav
        obtain rfl : r = some i := by rw [← HR.out]; exact hav
        have hci : (f i : Int) < (L : Int) - ((n : Int) - (i : Int)) := by omega
        have R1 : Hid ((wr.setCell ⟨g, i, none⟩ (.int .i64 ((f i : Int) + 1))).ownsRow b0 3 1 (.slice (some ⟨g, 0, none⟩) n cap) n (nRow n fun u => if u < i + 1 then advF f i u else f u)) := Lib.hid (by
          have := ownsRow_put row i (natV (f i + 1))
          rw [nRow_set, nRow_congr (g := fun u => if u < i + 1 then advF f i u else f u) (fun j _ => by
            unfold advF
            by_cases e : j = i
            · subst e; rw [if_pos rfl, if_pos (by omega), if_neg (by omega)]; omega
            · rw [if_neg e]
              by_cases h2 : j < i
              · rw [if_pos (by omega), if_pos h2]
              · rw [if_neg (by omega)])] at this
          exact this)
        have I0 : Hid (AdI w g b0 n cap i f (n - (i + 1)) (.int .i64 ((i : Int) + 1)) (wr.setCell ⟨g, i, none⟩ (.int .i64 ((f i : Int) + 1)))) := Lib.hid ⟨i + 1, by omega, by omega, by simp, R1.out, KP.out.trans (A' := fun k => k = g) (fun k e => .inl e) ((Kp.setCell _ _).mono (fun _ _ e => e))⟩
        have hf0 : (0 : Int) ≤ (f i : Int) := by omega
        have hf1 : (f i : Int) ≤ 1000 := by omega
        clear row kp hav hgn hc hji HR
        generalize hfv : (f i : Int) = fi at *
        go_wp2_with fail
        go_loopg [6] (n - (i + 1)) (fun gk s wr => AdI w g b0 n cap i f gk s wr)
        case atStart => exact I0.out
        case round =>
          clear I0 R1
          obtain ⟨k, hk, hik, rfl, row, kp⟩ := hrel
          by_cases hlt : k < n
          · have hki : (k : Int) < (n : Int) := by omega
            have hk0 : (0 : Int) ≤ (k : Int) := by omega
            have hkm : (0 : Int) ≤ (k : Int) - 1 := by omega
            have hkn : (k : Int) - 1 < (n : Int) := by omega
            have htn : ((k : Int) - 1).toNat = k - 1 := by omega
            obtain ⟨c1, z1⟩ := nRow_cell row (j := k - 1) (by omega)
            obtain ⟨c2, z2⟩ := nRow_cell row (j := k) (by omega)
            rw [if_pos (by omega)] at c1
            rw [if_neg (by omega)] at c2
            have hval : ((advF f i (k - 1) : Nat) : Int) + 1 = ((advF f i k : Nat) : Int) := by unfold advF; rw [if_neg (by omega), if_neg (by omega)]; omega
            have hsm : ((advF f i (k - 1) : Nat) : Int) ≤ 3000 := by unfold advF; rw [if_neg (by omega)]; omega
            have hsm0 : (0 : Int) ≤ ((advF f i (k - 1) : Nat) : Int) := by omega
            have JN : Hid (AdI w g b0 n cap i f (n - (k + 1)) (.int .i64 ((k + 1 : Nat) : Int)) (wr.setCell ⟨g, k, none⟩ (.int .i64 (((advF f i (k - 1) : Nat) : Int) + 1)))) := Lib.hid ⟨k + 1, by omega, by omega, rfl, by
              have := ownsRow_put row k (natV (advF f i k))
              rw [nRow_set, nRow_congr (g := fun u => if u < k + 1 then advF f i u else f u) (fun j _ => by
                by_cases e : j = k
                · subst e; rw [if_pos rfl, if_pos (by omega)]
                · rw [if_neg e]
                  by_cases h2 : j < k
                  · rw [if_pos h2, if_pos (by omega)]
                  · rw [if_neg h2, if_neg (by omega)])] at this
              unfold natV at this
              rw [← hval] at this
              exact this, kp.trans (A' := fun k => k = g) (fun k e => .inl e) ((Kp.setCell _ _).mono (fun _ _ e => e))⟩
            have HK := Lib.hid hk
            clear row kp hval hk
            generalize ((advF f i (k - 1) : Nat) : Int) = av at *
            go_wp2_with fail
            go_roundg (n - (k + 1))
            case measure => have := HK.out; omega
            case rel => exact JN.out
          · obtain rfl : k = n := by omega
            have FIN : Hid (wr.ownsRow b0 3 1 (.slice (some ⟨g, 0, none⟩) k cap) k (nRow k (advF f i))) := Lib.hid (by
              rw [nRow_congr (g := advF f i) (fun j hj => by rw [if_pos hj])] at row
              exact row)
            have KF := Lib.hid kp
            clear row kp hk hlt
            go_wp2_with fail
            go_ret
            exact ⟨KF.out, rfl, FIN.out⟩
      · rw [if_neg hc] at hav
        have hci : ¬ (f i : Int) < (L : Int) - ((n : Int) - (i : Int)) := by omega
        have JN : Hid (AdR w g b0 n cap L f i (.int .i64 ((i : Int) - 1)) wr) := Lib.hid ⟨by omega, rfl, hav, ROW.out, KP.out⟩
        have hf0 : (0 : Int) ≤ (f i : Int) := by omega
        have hf1 : (f i : Int) ≤ 1000 := by omega
        clear row kp hav hgn hc hji HR HF
        generalize (f i : Int) = fi at *
        go_wp2_with fail
        go_roundg i
        case measure => omega
        case rel => exact JN.out
    · obtain rfl : gk = 0 := by omega
      obtain rfl : r = none := by rw [← HR.out]; exact hav
      have ROW := Lib.hid row
      have KP := Lib.hid kp
      clear row kp hav hgn hgt HR HF
      go_wp2_with fail
      go_ret
      exact ⟨KP.out, rfl, ROW.out⟩

end Go.Proofs.YtohinonkfhkclaaDoor

namespace Go.Proofs.YtohinonkfhkclaaDoor
open Go.RowKit

/-- The sets of s links below L, lexicographically (s at most 2). -/
def combos (L : Nat) : Nat → List (List Nat)
  | 0 => [[]]
  | 1 => (List.range L).map fun a => [a]
  | _ => (List.range L).flatMap fun a => ((List.range L).filter fun b => decide (a < b)).map fun b => [a, b]
def chkC (L s : Nat) : Bool :=
  let C := combos L s
  decide (C[0]? = some (List.range s)) && decide (C.length ≤ 100) && (List.range C.length).all fun t =>
    let c := C.getD t []
    decide (c.length = s) && c.all (fun x => decide (x < L)) && match advI L s (fun u => c.getD u 0) s with
      | none => decide (t + 1 = C.length)
      | some i => decide (C[t + 1]? = some ((List.range s).map (advF (fun u => c.getD u 0) i)))
theorem chk_all : ((List.range 13).all fun L => (List.range 3).all fun s => !decide (s ≤ L) || chkC L s) = true := by decide +kernel
theorem chk_at {L s : Nat} (hL : L ≤ 12) (hs : s ≤ 2) (h : s ≤ L) : chkC L s = true := by
  have := List.all_eq_true.1 chk_all L (List.mem_range.2 (by omega))
  have := List.all_eq_true.1 this s (List.mem_range.2 (by omega))
  simpa [h] using this
structure CombAt (L s t : Nat) (c : List Nat) : Prop where
  get : (combos L s)[t]? = some c
  len : c.length = s
  lt : ∀ x, x ∈ c → x < L
theorem comb_zero {L s : Nat} (hL : L ≤ 12) (hs : s ≤ 2) (h : s ≤ L) : (combos L s)[0]? = some (List.range s) ∧ (combos L s).length ≤ 100 ∧ 0 < (combos L s).length := by
  have := chk_at hL hs h
  unfold chkC at this
  simp only [Bool.and_eq_true, decide_eq_true_eq] at this
  refine ⟨this.1.1, this.1.2, ?_⟩
  rcases Nat.lt_or_ge 0 (combos L s).length with h1 | h1
  · exact h1
  · rw [List.getElem?_eq_none (by omega)] at this; cases this.1.1
theorem comb_at {L s t : Nat} (hL : L ≤ 12) (hs : s ≤ 2) (h : s ≤ L) (ht : t < (combos L s).length) : ∃ c, CombAt L s t c ∧ (match advI L s (fun u => c.getD u 0) s with | none => t + 1 = (combos L s).length | some i => (combos L s)[t + 1]? = some ((List.range s).map (advF (fun u => c.getD u 0) i))) := by
  have := chk_at hL hs h
  unfold chkC at this
  simp only [Bool.and_eq_true] at this
  have h2 := List.all_eq_true.1 this.2 t (List.mem_range.2 ht)
  have hg : (combos L s)[t]? = some ((combos L s).getD t []) := by rw [List.getD_eq_getElem?_getD, List.getElem?_eq_getElem ht]; rfl
  refine ⟨(combos L s).getD t [], ?_, ?_⟩
  · simp only [Bool.and_eq_true, decide_eq_true_eq] at h2
    exact ⟨hg, h2.1.1, fun x hx => by have := List.all_eq_true.1 h2.1.2 x hx; simpa using this⟩
  · generalize (combos L s).getD t [] = c at *
    simp only [Bool.and_eq_true] at h2
    have h3 := h2.2
    cases ha : advI L s (fun u => c.getD u 0) s with
    | none => rw [ha] at h3; simpa using h3
    | some i => rw [ha] at h3; simpa using h3

/-- A set is in a function of the links. -/
def inF (F : Bfn) (c : List Nat) : Bool := F fun v => decide (v ∈ c)
def setsUp (F : Bfn) (L s : Nat) : List (List Nat) := (List.range s).flatMap fun t => (combos L t).filter (inF F)
theorem setsUp_succ (F : Bfn) (L s : Nat) : setsUp F L (s + 1) = setsUp F L s ++ (combos L s).filter (inF F) := by
  unfold setsUp; rw [List.range_succ, List.flatMap_append]; simp
/-- What 'Sets' lists. -/
def setsL (F : Bfn) (L k : Nat) : List (List Nat) := setsUp F L (min k L + 1)
theorem setsUp_len (F : Bfn) {L : Nat} (hL : L ≤ 12) : ∀ s, s ≤ 3 → s ≤ L + 1 → (setsUp F L s).length ≤ 100 * s
  | 0, _, _ => by simp [setsUp]
  | s + 1, h, h2 => by
    have := setsUp_len F hL s (by omega) (by omega)
    have h3 := (comb_zero hL (show s ≤ 2 by omega) (by omega)).2.1
    have h4 := List.length_filter_le (inF F) (combos L s)
    rw [setsUp_succ, List.length_append]
    omega

theorem row_form {w : World} {B e size n : Nat} {v : Value} {xs : List Value} (h : w.ownsRow B e size v n xs) : ∃ a c, v = .slice a n c := by
  rcases h.2 with ⟨rfl, rfl⟩ | ⟨g, cap, cur, rfl, _⟩
  · exact ⟨none, 0, rfl⟩
  · exact ⟨_, cap, rfl⟩

/-! ### lists of lists in memory -/
/-- The value v owns the lists ls; no list lies in block g. -/
def NestB (b0 : Nat) (g : Nat) (w : World) (v : Value) (ls : List (List Nat)) : Prop :=
  ∃ vs : List Value, vs.length = ls.length ∧ w.ownsRow b0 28 1 v ls.length vs ∧ (∀ k, v.ownBlock = some k → k ≠ g) ∧
    ∀ i x, vs[i]? = some x → x.oneCell' = true ∧ w.ownsRow b0 3 1 x (ls.getD i []).length ((ls.getD i []).map natV) ∧ ∀ k, x.ownBlock = some k → k ≠ g
theorem NestB.kp {b0 g : Nat} {w w' : World} {v : Value} {ls : List (List Nat)} (h : NestB b0 g w v ls) (k : Kp (fun x => x = g) w w') : NestB b0 g w' v ls := by
  obtain ⟨vs, h1, h2, h3, h4⟩ := h
  exact ⟨vs, h1, ownsRow_kp h2 k h3, h3, fun i x hx => ⟨(h4 i x hx).1, ownsRow_kp (h4 i x hx).2.1 k (h4 i x hx).2.2, (h4 i x hx).2.2⟩⟩
theorem NestB.no {b0 g : Nat} {w w' : World} {v : Value} {ls : List (List Nat)} (h : NestB b0 g w v ls) (k : Kp No w w') : NestB b0 g w' v ls := h.kp k.of_no
theorem NestB.nil (b0 g : Nat) (w : World) : NestB b0 g w (.slice none 0 0) [] := ⟨[], rfl, World.ownsRow_nil _ _ _ _, fun k h => (by cases h), fun i x h => (by simp at h)⟩
/-- A block that is not yet there. -/
theorem NestB.fresh {b0 g : Nat} {w : World} {v : Value} {ls : List (List Nat)} (h : NestB b0 g w v ls) {g' : Nat} (hg : w.heap.size ≤ g') : NestB b0 g' w v ls := by
  obtain ⟨vs, h1, h2, h3, h4⟩ := h
  exact ⟨vs, h1, h2, fun k hk => by have := (h2.lt k hk).2; omega, fun i x hx => ⟨(h4 i x hx).1, (h4 i x hx).2.1, fun k hk => by have := ((h4 i x hx).2.1.lt k hk).2; omega⟩⟩
/-- One list more. -/
theorem NestB.push {b0 g n : Nat} {w w1 w2 : World} {v : Value} {ls : List (List Nat)} {vs : List Value} {x : Value} {c : List Nat} {g2 cap2 : Nat} (hn : n = ls.length)
    (h1 : vs.length = ls.length) (h3 : ∀ k, v.ownBlock = some k → k ≠ g) (h4 : ∀ i x, vs[i]? = some x → x.oneCell' = true ∧ w.ownsRow b0 3 1 x (ls.getD i []).length ((ls.getD i []).map natV) ∧ ∀ k, x.ownBlock = some k → k ≠ g)
    (hout : w.ownsRow b0 28 1 v ls.length vs) (hx : w.ownsRow b0 3 1 x c.length (c.map natV)) (hx1 : x.oneCell' = true) (hxg : ∀ k, x.ownBlock = some k → k ≠ g)
    (k1 : Kp No w w1) (hown : w2.ownsRow b0 28 1 (.slice (some ⟨g2, 0, none⟩) (n + 1) cap2) (n + 1) (vs ++ [x])) (hgrow : w1.grownBy w2 v.ownBlock) (hat : v.ownBlock = some g2 ∨ g2 = w1.heap.size) (hg : g < w1.heap.size) :
    NestB b0 g w2 (.slice (some ⟨g2, 0, none⟩) (n + 1) cap2) (ls ++ [c]) := by
  subst hn
  have kg : Kp (fun z => v.ownBlock = some z) w w2 := k1.no_trans (Kp.grown hgrow)
  have row : ∀ (y : Value) (l : List Nat), w.ownsRow b0 3 1 y l.length (l.map natV) → w2.ownsRow b0 3 1 y l.length (l.map natV) := fun y l hy => ownsRow_kp hy kg (fun k hk hv => by
    obtain ⟨c1, g1⟩ := ownsRow_block hy hk
    obtain ⟨c2, g3⟩ := ownsRow_block hout hv
    rw [g1] at g3
    cases g3)
  refine ⟨vs ++ [x], by simp [h1], by rw [List.length_append]; exact hown, fun k hk => ?_, fun i y hy => ?_⟩
  · simp [Value.ownBlock] at hk
    subst hk
    rcases hat with h | h
    · exact h3 _ h
    · omega
  · by_cases hi : i < vs.length
    · rw [List.getElem?_append_left hi] at hy
      have e : (ls ++ [c]).getD i [] = ls.getD i [] := by rw [List.getD_eq_getElem?_getD, List.getElem?_append_left (by omega), ← List.getD_eq_getElem?_getD]
      rw [e]
      exact ⟨(h4 i y hy).1, row _ _ (h4 i y hy).2.1, (h4 i y hy).2.2⟩
    · rw [List.getElem?_append_right (by omega)] at hy
      have h0 : i - vs.length = 0 := by
        rcases Nat.eq_zero_or_pos (i - vs.length) with h | h
        · exact h
        · rw [List.getElem?_eq_none (by simp; omega)] at hy; cases hy
      rw [h0] at hy
      simp at hy
      subst hy
      have e : (ls ++ [c]).getD i [] = c := by rw [List.getD_eq_getElem?_getD, List.getElem?_append_right (by omega), show i - ls.length = 0 by omega]; rfl
      rw [e]
      exact ⟨hx1, row _ _ hx, hxg⟩

end Go.Proofs.YtohinonkfhkclaaDoor
