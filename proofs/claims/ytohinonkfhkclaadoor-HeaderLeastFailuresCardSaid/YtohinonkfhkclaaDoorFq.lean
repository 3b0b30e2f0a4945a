/-
  Plain mathematics: the law FailureLists.
-/
import Derived.Test.YtohinonkfhkclaaDoorFp
import Derived.Deep.CutBlock
namespace Go.Proofs.YtohinonkfhkclaaDoor
open Go.RowKit

/-- Lexicographically before, of two lists of one length. -/
def lexB : List Nat → List Nat → Bool
  | x :: a, y :: b => if x = y then lexB a b else decide (x < y)
  | _, _ => false
def befB (a b : List Nat) : Bool := if a.length = b.length then lexB a b else decide (a.length < b.length)
theorem lexB_skip : ∀ (a b : List Nat) (k : Nat), (∀ i, i < k → a[i]? = b[i]?) → k ≤ a.length → k ≤ b.length → lexB a b = lexB (a.drop k) (b.drop k)
  | _, _, 0, _, _, _ => by simp
  | x :: a, y :: b, k + 1, h, h1, h2 => by
    have e : x = y := by have := h 0 (by omega); simpa using this
    subst e
    simp only [lexB, if_true, List.drop_succ_cons]
    exact lexB_skip a b k (fun i hi => by have := h (i + 1) (by omega); simpa using this) (by simpa using h1) (by simpa using h2)
theorem lexB_at {a b : List Nat} {k : Nat} (h : ∀ i, i < k → a[i]? = b[i]?) (h1 : k < a.length) (h2 : k < b.length) (hne : a[k] ≠ b[k]) : lexB a b = decide (a[k] < b[k]) := by
  rw [lexB_skip a b k h (by omega) (by omega), List.drop_eq_getElem_cons h1, List.drop_eq_getElem_cons h2]
  simp only [lexB, if_neg hne]
theorem lexB_same : ∀ (a : List Nat), lexB a a = false
  | [] => rfl
  | x :: a => by simp only [lexB, if_true]; exact lexB_same a

def BfL (w : World) (l1 l2 : List Nat) (gk : Nat) (s5 : Value) (wr : World) : Prop := ∃ k m, k + gk = l1.length ∧ s5 = .int .i64 (k : Int) ∧ wr = w.drewN m ∧ ∀ i, i < k → l1[i]? = l2[i]?

set_option maxRecDepth 100000 in
set_option maxHeartbeats 1000000 in
theorem before_ok {a b : Value} {l1 l2 : List Nat} {w : World} (ha : SrcAt w a 1 l1.length (l1.map natV)) (hb : SrcAt w b 1 l2.length (l2.map natV)) (hl : l1.length ≤ 1000000) :
    Calls Tryd.prog 45 #[a, b] w fun e w' => e = .returned (.bool (befB l1 l2)) ∧ ∃ m, w' = w.drewN m := by
  have HA := Lib.hid ha
  have HB := Lib.hid hb
  obtain ⟨aa, ca, rfl⟩ := ha.form
  obtain ⟨ab, cb, rfl⟩ := hb.form
  clear ha hb
  have hli : (l1.length : Int) ≤ 1000000 := by omega
  by_cases hne : l1.length = l2.length
  case neg =>
    have hn3 : ((l1.length : Int) != (l2.length : Int)) = true := by simp; omega
    have hr : befB l1 l2 = decide ((l1.length : Int) < (l2.length : Int)) := by unfold befB; rw [if_neg hne, decide_eq_decide]; omega
    rw [hr]
    clear hr
    by_cases hlt : (l1.length : Int) < (l2.length : Int)
    · rw [decide_eq_true hlt]
      go_enter Tryd.func45, Tryd.ntmps45
      go_wp2_with fail
      go_ret
      exact ⟨rfl, 0, rfl⟩
    · rw [decide_eq_false hlt]
      have hd : decide ((l1.length : Int) < (l2.length : Int)) = false := decide_eq_false hlt
      go_enter Tryd.func45, Tryd.ntmps45
      go_wp2_with fail
      go_ret
      exact ⟨by first | rfl | (rw [hd]), 0, rfl⟩
  obtain ⟨r, hr⟩ : ∃ r, befB l1 l2 = r := ⟨_, rfl⟩
  rw [hr]
  have HR : Hid (lexB l1 l2 = r) := Lib.hid (by rw [← hr]; unfold befB; rw [if_pos hne])
  clear hr
  have J0 : Hid (BfL w l1 l2 l1.length (.int .i64 0) w) := Lib.hid ⟨0, 0, by omega, rfl, rfl, fun i h => by omega⟩
  rw [← hne] at HB
  rw [← hne]
  go_enter Tryd.func45, Tryd.ntmps45
  go_wp2_with fail
  go_loopg [5] l1.length (fun gk s5 wr => BfL w l1 l2 gk s5 wr)
  case atStart => exact J0.out
  case round =>
    clear J0
    obtain ⟨k, m, hk, rfl, hw, heq⟩ := hrel
    have HW := Lib.hid hw
    by_cases hlt : k < l1.length
    · have hlt2 : k < l2.length := by omega
      obtain ⟨g1, o1, c1, hv1, _, hc1⟩ := (HA.out.no (Kp.drewN m)).cellAt (by omega)
      obtain ⟨g2, o2, c2, hv2, _, hc2⟩ := (HB.out.no (Kp.drewN m)).cellAt (by omega)
      cases hv1
      cases hv2
      have f1 : wr.cell? ⟨g1, o1 + k, none⟩ = some (.int .i64 (l1[k] : Int)) := by rw [hw]; exact hc1 k _ (by simp [natV, hlt])
      have f2 : wr.cell? ⟨g2, o2 + k, none⟩ = some (.int .i64 (l2[k] : Int)) := by rw [hw]; exact hc2 k _ (by simp [natV, hlt2])
      have hlti : (k : Int) < l1.length := by omega
      have HK := Lib.hid hk
      by_cases hx : l1[k] = l2[k]
      · have JN : Hid (∀ d, BfL w l1 l2 (l1.length - (k + 1)) (.int .i64 ((k + 1 : Nat) : Int)) (wr.drewN d)) := Lib.hid (fun d => ⟨k + 1, m + d, by omega, rfl, by rw [HW.out, World.drewN_drewN], fun i hi => by
          by_cases e : i = k
          · subst e; rw [List.getElem?_eq_getElem hlt, List.getElem?_eq_getElem hlt2, hx]
          · exact heq i (by omega)⟩)
        rw [← hx] at f2
        clear hk hw hc1 hc2 heq hx HR
        generalize (l1[k] : Int) = x at *
        go_wp2_with fail
        go_quiet (fail)
        go_wp2_with fail
        go_roundg (l1.length - (k + 1))
        case measure => have := HK.out; omega
        case rel => exact JN.out _
      · have HRV : Hid (decide ((l1[k] : Int) < (l2[k] : Int)) = r) := Lib.hid (by rw [← HR.out, lexB_at heq hlt hlt2 hx, decide_eq_decide]; omega)
        have hx2 : ((l1[k] : Int) != (l2[k] : Int)) = true := by simp; omega
        clear hk hw hc1 hc2 heq HR hx
        generalize (l1[k] : Int) = x at *
        generalize (l2[k] : Int) = y at *
        go_wp2_with fail
        go_quiet (fail)
        go_wp2_with fail
        go_quiet (fail)
        go_wp2_with fail
        go_ret
        exact ⟨by rw [← HRV.out]; rfl, _, by rw [HW.out, World.drewN_drewN, World.drewN_drewN]⟩
    · obtain rfl : k = l1.length := by omega
      obtain rfl : r = false := by
        rw [← HR.out]
        have e : l1 = l2 := List.ext_getElem? (fun i => by
          by_cases hi : i < l1.length
          · exact heq i hi
          · rw [List.getElem?_eq_none (by omega), List.getElem?_eq_none (by omega)])
        rw [e]; exact lexB_same _
      have hge : ¬ (l1.length : Int) < l1.length := by omega
      clear hk hw heq HR
      go_wp2_with fail
      go_ret
      exact ⟨rfl, m, HW.out⟩

/-! ### lists of lists -/
/-- The value v owns the lists ls, none of them in a block of A. -/
def Nest (A : Nat → Prop) (b0 : Nat) (w : World) (v : Value) (ls : List (List Nat)) : Prop :=
  ∃ vs : List Value, vs.length = ls.length ∧ (w.ownsRow b0 28 1 v ls.length vs ∧ ∀ z, v.ownBlock = some z → ¬ A z) ∧ ∀ i x, vs[i]? = some x → x.oneCell' = true ∧ w.ownsRow b0 3 1 x (ls.getD i []).length ((ls.getD i []).map natV) ∧ ∀ z, x.ownBlock = some z → ¬ A z
theorem Nest.kp {A : Nat → Prop} {b0 : Nat} {w w' : World} {v : Value} {ls : List (List Nat)} (h : Nest A b0 w v ls) (k : Kp A w w') : Nest A b0 w' v ls := by
  obtain ⟨vs, h1, ⟨h2, h3⟩, h4⟩ := h
  exact ⟨vs, h1, ⟨ownsRow_kp h2 k h3, h3⟩, fun i x hx => ⟨(h4 i x hx).1, ownsRow_kp (h4 i x hx).2.1 k (h4 i x hx).2.2, (h4 i x hx).2.2⟩⟩
theorem Nest.no {A : Nat → Prop} {b0 : Nat} {w w' : World} {v : Value} {ls : List (List Nat)} (h : Nest A b0 w v ls) (k : Kp No w w') : Nest A b0 w' v ls := h.kp k.of_no
theorem Nest.fresh {A A' : Nat → Prop} {b0 : Nat} {w : World} {v : Value} {ls : List (List Nat)} (h : Nest A b0 w v ls) (hA : ∀ z, z < w.heap.size → A' z → A z) : Nest A' b0 w v ls := by
  obtain ⟨vs, h1, ⟨h2, h3⟩, h4⟩ := h
  exact ⟨vs, h1, ⟨h2, fun z hz hz2 => h3 z hz (hA z (h2.lt z hz).2 hz2)⟩, fun i x hx => ⟨(h4 i x hx).1, (h4 i x hx).2.1, fun z hz hz2 => (h4 i x hx).2.2 z hz (hA z ((h4 i x hx).2.1.lt z hz).2 hz2)⟩⟩
theorem Nest.nil (A : Nat → Prop) (b0 : Nat) (w : World) : Nest A b0 w (.slice none 0 0) [] := ⟨[], rfl, ⟨World.ownsRow_nil _ _ _ _, fun z h => by simp [Value.ownBlock] at h⟩, fun i x h => by simp at h⟩
theorem Nest.at {A : Nat → Prop} {b0 : Nat} {w : World} {v : Value} {ls : List (List Nat)} (h : Nest A b0 w v ls) {i : Nat} (hi : i < ls.length) : ∃ gv cv x, v = .slice (some ⟨gv, 0, none⟩) ls.length cv ∧ w.cell? ⟨gv, i, none⟩ = some x ∧ w.ownsRow b0 3 1 x ls[i].length (ls[i].map natV) := by
  obtain ⟨vs, h1, ⟨h2, _⟩, h4⟩ := h
  obtain ⟨gv, cv, rfl, _, _, _, hc, _⟩ := ownsRow_open h2 (by omega)
  have hx : vs[i]? = some vs[i] := List.getElem?_eq_getElem (by omega)
  have := (h4 i _ hx).2.1
  rw [List.getD_eq_getElem?_getD, List.getElem?_eq_getElem hi] at this
  exact ⟨gv, cv, _, rfl, hc i _ hx, this⟩
theorem Nest.form {A : Nat → Prop} {b0 : Nat} {w : World} {v : Value} {ls : List (List Nat)} (h : Nest A b0 w v ls) : ∃ a c, v = .slice a ls.length c := by
  obtain ⟨vs, _, ⟨h2, _⟩, _⟩ := h
  exact row_form h2

/-- 'insert'. -/
def insK : List (List Nat) → List Nat → Nat
  | [], _ => 0
  | y :: l, x => if befB y x then insK l x + 1 else 0
def insL (l : List (List Nat)) (x : List Nat) : List (List Nat) := if l[insK l x]? = some x then l else l.take (insK l x) ++ x :: l.drop (insK l x)

theorem insK_le : ∀ (l : List (List Nat)) (x : List Nat), insK l x ≤ l.length
  | [], _ => Nat.le_refl _
  | y :: l, x => by have := insK_le l x; simp only [insK]; split <;> simp <;> omega
theorem insK_lt : ∀ (l : List (List Nat)) (x : List Nat) (k : Nat) (hk : k < l.length), k < insK l x → befB l[k] x = true
  | [], _, _, hk, _ => by simp at hk
  | y :: l, x, k, hk, h => by
    simp only [insK] at h
    by_cases hy : befB y x = true
    · rw [if_pos hy] at h
      cases k with
      | zero => exact hy
      | succ k => exact insK_lt l x k (by simpa using hk) (by omega)
    · rw [if_neg hy] at h; omega
theorem insK_at : ∀ (l : List (List Nat)) (x : List Nat) (hk : insK l x < l.length), befB l[insK l x] x = false
  | [], _, hk => by simp at hk
  | y :: l, x, hk => by
    by_cases hy : befB y x = true
    · have e : insK (y :: l) x = insK l x + 1 := by simp only [insK]; rw [if_pos hy]
      have h2 : insK l x < l.length := by rw [e] at hk; simpa using hk
      have := insK_at l x h2
      simp only [e, List.getElem_cons_succ]
      exact this
    · have e : insK (y :: l) x = 0 := by simp only [insK]; rw [if_neg hy]
      simp only [e, List.getElem_cons_zero]
      simpa using hy

def InR (w : World) (K gk : Nat) (s5 : Value) (wr : World) : Prop := ∃ k, k + gk = K ∧ s5 = .int .i64 (k : Int) ∧ Kp No w wr
theorem SrcAt.part {w : World} {b0 g n cap : Nat} {t : TypeId} {vs : List Value} (h : w.ownsRow b0 t 1 (.slice (some ⟨g, 0, none⟩) n cap) n vs) {o m c : Nat} (hm : o + m ≤ n) : SrcAt w (.slice (some ⟨g, o, none⟩) m c) 1 m ((vs.drop o).take m) := by
  have hlen : vs.length = n * 1 := h.1
  refine ⟨_, c, rfl, by simp; omega, ?_⟩
  rcases Nat.eq_zero_or_pos m with h0 | h0
  · exact .inl (by subst h0; simp)
  · obtain ⟨g', c', hv, _, _, _, hc, _⟩ := ownsRow_open h (by omega)
    cases hv
    refine .inr ⟨g, o, rfl, (h.lt g rfl).2, fun j u hu => ?_⟩
    rw [List.getElem?_take] at hu
    split at hu
    · rw [List.getElem?_drop] at hu
      exact hc _ _ hu
    · cases hu

theorem SrcAt.naught {w : World} {a : Option Addr} {m c : Nat} {vs : List Value} (hm : m = 0) (hv : vs = []) : SrcAt w (.slice a m c) 1 m vs := by
  subst hm hv
  exact ⟨a, c, rfl, rfl, .inl rfl⟩

/-- The list with one more between. -/
theorem Nest.join {A : Nat → Prop} {b0 : Nat} {w w' : World} {v' xv : Value} {ls : List (List Nat)} {vs : List Value} {x : List Nat} {K : Nat} (hK : K ≤ ls.length) (h1 : vs.length = ls.length) (h4 : ∀ i y, vs[i]? = some y → y.oneCell' = true ∧ w.ownsRow b0 3 1 y (ls.getD i []).length ((ls.getD i []).map natV) ∧ ∀ z, y.ownBlock = some z → ¬ A z)
    (hx : w.ownsRow b0 3 1 xv x.length (x.map natV)) (hx1 : xv.oneCell' = true) (hx2 : ∀ z, xv.ownBlock = some z → ¬ A z) (hv : ∀ z, v'.ownBlock = some z → ¬ A z) (k : Kp No w w') (hown : w'.ownsRow b0 28 1 v' (K + 1 + (ls.length - K)) (vs.take K ++ xv :: vs.drop K)) : Nest A b0 w' v' (ls.take K ++ x :: ls.drop K) := by
  have hl : (ls.take K ++ x :: ls.drop K).length = K + 1 + (ls.length - K) := by simp; omega
  refine ⟨vs.take K ++ xv :: vs.drop K, by rw [hl]; simp; omega, ⟨by rw [hl]; exact hown, hv⟩, fun i y hy => ?_⟩
  have row : ∀ (z : Value) (l : List Nat), w.ownsRow b0 3 1 z l.length (l.map natV) → w'.ownsRow b0 3 1 z l.length (l.map natV) := fun z l hz => ownsRow_kp hz k (fun _ _ x => x)
  have hlt : (vs.take K).length = K := by simp; omega
  have hlt2 : (ls.take K).length = K := by simp; omega
  by_cases hi : i < K
  · rw [List.getElem?_append_left (by omega), List.getElem?_take, if_pos hi] at hy
    have e : (ls.take K ++ x :: ls.drop K).getD i [] = ls.getD i [] := by rw [List.getD_eq_getElem?_getD, List.getElem?_append_left (by omega), List.getElem?_take, if_pos hi, ← List.getD_eq_getElem?_getD]
    rw [e]
    exact ⟨(h4 i y hy).1, row _ _ (h4 i y hy).2.1, (h4 i y hy).2.2⟩
  · rw [List.getElem?_append_right (by omega), hlt] at hy
    have e : (ls.take K ++ x :: ls.drop K).getD i [] = (x :: ls.drop K).getD (i - K) [] := by rw [List.getD_eq_getElem?_getD, List.getElem?_append_right (by omega), hlt2, ← List.getD_eq_getElem?_getD]
    rw [e]
    obtain ⟨j, hj⟩ : ∃ j, i - K = j := ⟨_, rfl⟩
    rw [hj] at hy ⊢
    cases j with
    | zero =>
      simp at hy
      subst hy
      exact ⟨hx1, row _ _ hx, hx2⟩
    | succ j =>
      rw [List.getElem?_cons_succ, List.getElem?_drop] at hy
      have e2 : (x :: ls.drop K).getD (j + 1) [] = ls.getD (K + j) [] := by rw [List.getD_cons_succ, List.getD_eq_getElem?_getD, List.getElem?_drop, ← List.getD_eq_getElem?_getD]
      rw [e2]
      exact ⟨(h4 _ y hy).1, row _ _ (h4 _ y hy).2.1, (h4 _ y hy).2.2⟩

set_option maxRecDepth 100000 in
set_option maxHeartbeats 8000000 in
theorem insert_ok {A : Nat → Prop} {b0 : Nat} {lv xv : Value} {ls : List (List Nat)} {x : List Nat} {w : World} (hA : ∀ z, A z → z < w.heap.size) (hb : b0 ≤ w.heap.size) (hn : Nest A b0 w lv ls) (hxA : ∀ z, xv.ownBlock = some z → ¬ A z) (hx : w.ownsRow b0 3 1 xv x.length (x.map natV)) (hl : ls.length ≤ 1000) (hsm : ∀ y, y ∈ ls → y.length ≤ 1000) (_ : x.length ≤ 1000) :
    Calls Tryd.prog 16 #[lv, xv] w fun e w' => ∃ v', e = .returned v' ∧ Nest A b0 w' v' (insL ls x) ∧ Kp No w w' := by
  obtain ⟨j0, hj0, hy0, hy1, hy2⟩ := info_parts info_ints
  have hKle := insK_le ls x
  have HLT := Lib.hid (fun k (hk : k < ls.length) => insK_lt ls x k hk)
  have HAT := Lib.hid (insK_at ls x)
  obtain ⟨K, hK⟩ : ∃ K, insK ls x = K := ⟨_, rfl⟩
  have HIN : Hid (insL ls x = if ls[K]? = some x then ls else ls.take K ++ x :: ls.drop K) := Lib.hid (by unfold insL; rw [hK])
  have HAK : Hid (∀ (h : K < ls.length), befB ls[K] x = false) := Lib.hid (by rw [← hK]; exact HAT.out)
  rw [hK] at HLT hKle
  have NE := Lib.hid hn
  have XR := Lib.hid hx
  have SM := Lib.hid hsm
  obtain ⟨ax, cx, rfl⟩ := row_form hx
  have XA := Lib.hid hxA
  have HA := Lib.hid hA
  obtain ⟨vs, n1, ⟨n2, n3⟩, n4⟩ := hn
  have N1 := Lib.hid n1
  have N2 := Lib.hid n2
  have N4 := Lib.hid n4
  obtain ⟨al, cl, rfl⟩ := row_form n2
  have HB := Lib.hid hb
  have J0 : Hid (InR w K K (.int .i64 0) w) := Lib.hid ⟨0, by omega, rfl, Kp.refl _ _⟩
  clear hx hsm n1 n2 n3 n4 hb hK HAT hA hxA
  go_enter Tryd.func16, Tryd.ntmps16
  go_wp2_with fail
  go_loopg [5] K (fun gk s5 wr => InR w K gk s5 wr)
  case atStart => exact J0.out
  case round =>
    clear J0
    obtain ⟨k, hk, rfl, kp⟩ := hrel
    by_cases hlt : k < K
    · have hkl : k < ls.length := by omega
      obtain ⟨gv, cv, y, hv, c0, yr⟩ := (NE.out.no kp).at hkl
      cases hv
      have YR := Lib.hid (SrcAt.of_row yr)
      obtain ⟨ay, cy, rfl⟩ := row_form yr
      have BF := Lib.hid (before_ok YR.out (SrcAt.of_row (ownsRow_kp XR.out kp (fun _ _ z => z))) (by have := SM.out ls[k] (List.getElem_mem hkl); omega))
      rw [HLT.out k hkl hlt] at BF
      have hki : (k : Int) < ls.length := by omega
      have JN : Hid (∀ m, InR w K (K - (k + 1)) (.int .i64 ((k + 1 : Nat) : Int)) (wr.drewN m)) := Lib.hid (fun m => ⟨k + 1, by omega, rfl, kp.trans_no (Kp.drewN m)⟩)
      have HK := Lib.hid hk
      clear yr kp hk YR
      generalize ls[k].length = ny at *
      go_wp2_with fail
      refine BF.out.mono ?_
      rintro e wq ⟨rfl, m, rfl⟩
      clear BF
      go_wp2_with fail
      go_roundg (K - (k + 1))
      case measure => have := HK.out; omega
      case rel => exact JN.out _
    · obtain rfl : k = K := by omega
      have KP := Lib.hid kp
      clear hk hlt kp
      by_cases hkl : k < ls.length
      · obtain ⟨gv, cv, y, hv, c0, yr⟩ := (NE.out.no KP.out).at hkl
        cases hv
        have YR := Lib.hid (SrcAt.of_row yr)
        obtain ⟨ay, cy, rfl⟩ := row_form yr
        have XR2 := Lib.hid (SrcAt.of_row (ownsRow_kp XR.out KP.out (fun _ _ z => z)))
        have hyl := SM.out ls[k] (List.getElem_mem hkl)
        have BF := Lib.hid (before_ok YR.out XR2.out (by omega))
        rw [HAK.out hkl] at BF
        have IN := Lib.hid (fun m => Ints_ok (w := wr.drewN m) (l1 := ls[k].map Int.ofNat) (l2 := x.map Int.ofNat) (by rw [List.length_map, nat_int_map]; exact YR.out.no (Kp.drewN m)) (by rw [List.length_map, nat_int_map]; exact XR2.out.no (Kp.drewN m)) (by rw [List.length_map]; omega))
        have hki : (k : Int) < ls.length := by omega
        have CX := Lib.hid (fun m => (Kp.drewN (w := wr) m).cell (World.block_lt_of_cell? _ _ c0) (fun z => z) ▸ c0)
        clear yr YR XR2 hyl
        by_cases he : ls[k] = x
        · have HRE : Hid (insL ls x = ls) := Lib.hid (by rw [HIN.out, if_pos (by rw [List.getElem?_eq_getElem hkl, he])])
          have hde : decide (ls[k].map Int.ofNat = x.map Int.ofNat) = true := decide_eq_true (by rw [he])
          simp only [hde] at IN
          clear hde he
          generalize ls[k].length = ny at *
          go_wp2_with fail
          refine BF.out.mono ?_
          rintro e wq ⟨rfl, m, rfl⟩
          have c1 := CX.out m
          clear BF
          go_wp2_with fail
          refine (IN.out m).mono ?_
          rintro e wq ⟨rfl, m2, rfl⟩
          clear IN
          go_wp2_with fail
          go_ret
          exact ⟨_, rfl, by rw [HRE.out]; exact (NE.out.no KP.out).no (Kp.drewN _), KP.out.trans_no (Kp.drewN _)⟩
        · have HRE : Hid (insL ls x = ls.take k ++ x :: ls.drop k) := Lib.hid (by rw [HIN.out, if_neg (by rw [List.getElem?_eq_getElem hkl]; intro h; exact he (Option.some.inj h))])
          have hde : decide (ls[k].map Int.ofNat = x.map Int.ofNat) = false := decide_eq_false (fun h => he (ofNat_inj.1 h))
          simp only [hde] at IN
          clear hde he
          generalize ls[k].length = ny at *
          go_wp2_with fail
          refine BF.out.mono ?_
          rintro e wq ⟨rfl, m, rfl⟩
          have c1 := CX.out m
          clear BF
          go_wp2_with fail
          refine (IN.out m).mono ?_
          rintro e wq ⟨rfl, m2, rfl⟩
          clear IN
          have KT : Hid (Kp No w ((wr.drewN m).drewN m2)) := Lib.hid (KP.out.trans_no ((Kp.drewN m).trans_no (Kp.drewN m2)))
          generalize (wr.drewN m).drewN m2 = wt at *
          obtain ⟨hn1, hcm⟩ : ls.length ≤ cl ∧ cl ≤ maxLen := by
            obtain ⟨_, _, hq, h1, h2, _⟩ := ownsRow_open N2.out (by omega)
            cases hq
            exact ⟨h1, h2⟩
          have P1 := Lib.hid (SrcAt.part (ownsRow_kp N2.out KT.out (fun _ _ z => z)) (o := 0) (m := k) (c := cl) (by omega))
          have P2 := Lib.hid (fun (y : World) (ky : Kp No wt y) => SrcAt.part (ownsRow_kp N2.out (KT.out.trans_no ky) (fun _ _ z => z)) (o := k) (m := ls.length - k) (c := cl - k) (by omega))
          have hkn : (k : Int) ≤ (ls.length : Int) := by omega
          have hkc : (k : Int) ≤ (cl : Int) := by omega
          have hnc : (ls.length : Int) ≤ (cl : Int) := by omega
          have hk0 : (0 : Int) ≤ (k : Int) := by omega
          have HONE1 : Hid (∀ u ∈ (vs.drop 0).take k, u.oneCell' = true) := Lib.hid (fun u hu => by
            obtain ⟨i, hi⟩ := List.mem_iff_getElem?.1 (List.mem_of_mem_drop (List.mem_of_mem_take hu))
            exact (N4.out i u hi).1)
          have HONE2 : Hid (∀ u ∈ (vs.drop k).take (ls.length - k), u.oneCell' = true) := Lib.hid (fun u hu => by
            obtain ⟨i, hi⟩ := List.mem_iff_getElem?.1 (List.mem_of_mem_drop (List.mem_of_mem_take hu))
            exact (N4.out i u hi).1)
          have hwt : b0 ≤ wt.heap.size := Nat.le_trans HB.out KT.out.size
          go_upto_region 7 with (at_builtin; refine wpList_append_src rfl _ _ rfl (base := b0) (v := .slice none 0 0) Tryd.underlying27 hj0 hy0 hy1 hy2 rfl (by omega) rfl (World.ownsRow_nil _ _ _ _) rfl P1.out HONE1.out (by unfold maxLen; omega) (by omega) hwt ?_; intro v1 w1 hown1 hgrow1 hat1)
          have r1 : w1.ownsRow b0 28 1 v1 k (vs.take k) := by simpa using hown1
          obtain ⟨a1, c1', rfl⟩ := row_form r1
          have k1 : Kp No wt w1 := (Kp.grown hgrow1).mono (fun z _ h => by simp [Value.ownBlock] at h)
          have hv1 : ∀ z, (Value.slice a1 k c1').ownBlock = some z → wt.heap.size ≤ z := fun z hz => by
            rcases hat1 with h | h
            · rw [h] at hz; cases hz
            · rw [h] at hz; injection hz with hz; omega
          have hs1 : wt.heap.size ≤ w1.heap.size := k1.size
          clear hown1 hgrow1 hat1
          go_upto_region 8 with (at_builtin; refine wpList_append_lies _ rfl (.tmp 38) (.tmp 40) _ rfl b0 28 j0 _ 1 24 Tryd.underlying27 hj0 hy0 hy1 hy2 rfl (by omega) (.slice a1 k c1') k (vs.take k) rfl (r1.alloc _) ⟨w1.heap.size, 0, none⟩ 1 1 [.slice ax x.length cx] rfl rfl (World.news_of_block (heap_alloc_new _ _)) (by simp [Value.oneCell']) (by omega) (by unfold maxLen; omega) (by omega) (by simp; omega) (w1.heap.size + 1) (by simp) ?_; intro g2 cap2 w2 hown2 hgrow2 hat2 hlt2)
          have kg2 : Kp (fun z => (Value.slice a1 k c1').ownBlock = some z) w1 w2 := grown_no (Kp.alloc _) hgrow2
          have k2 : Kp No wt w2 := k1.trans (A' := fun z => (Value.slice a1 k c1').ownBlock = some z) (fun z hz => .inr (hv1 z hz)) kg2
          have hg2 : wt.heap.size ≤ g2 := by
            rcases hat2 with h | h
            · exact hv1 _ h
            · omega
          have P2W := Lib.hid (P2.out w2 k2)
          have hw2 : b0 ≤ w2.heap.size := Nat.le_trans hwt k2.size
          clear r1 k1 hv1 hs1 hgrow2 hat2 hlt2 kg2
          go_wp2_with (at_builtin; refine wpList_append_src rfl _ _ rfl (base := b0) (v := .slice (some ⟨g2, 0, none⟩) (k + 1) cap2) Tryd.underlying27 hj0 hy0 hy1 hy2 rfl (by omega) rfl hown2 rfl P2W.out HONE2.out (by unfold maxLen; omega) (by omega) hw2 ?_; intro v3 w3 hown3 hgrow3 hat3)
          have DON : Hid (Nest A b0 w3 v3 (insL ls x) ∧ Kp No w w3) := Lib.hid (by
            have k3 : Kp No w w3 := (KT.out.trans_no k2).trans (A' := fun z => (Value.slice (some ⟨g2, 0, none⟩) (k + 1) cap2).ownBlock = some z) (fun z hz => .inr (by simp [Value.ownBlock] at hz; have := KT.out.size; omega)) (Kp.grown hgrow3)
            refine ⟨?_, k3⟩
            rw [HRE.out]
            refine Nest.join (by omega) N1.out N4.out XR.out rfl XA.out (fun z hz hz2 => by
              have hlt := HA.out z hz2
              have hwz := KT.out.size
              have h2z := k2.size
              rcases hat3 with h | h
              · rw [h] at hz; simp [Value.ownBlock] at hz; omega
              · rw [h] at hz; injection hz with hz; omega) k3 ?_
            have h := hown3
            rw [List.take_of_length_le (l := vs.drop k) (by rw [List.length_drop, N1.out]; exact Nat.le_refl _), List.append_assoc, List.singleton_append] at h
            exact h)
          clear hown2 hown3 hgrow3 hat3 k2 P2W
          go_wp2_with fail
          go_ret
          exact ⟨_, rfl, DON.out.1, DON.out.2⟩
      · have hke : k = ls.length := by omega
        have hki : ¬ (k : Int) < (ls.length : Int) := by omega
        have HRE : Hid (insL ls x = ls.take k ++ x :: ls.drop k) := Lib.hid (by rw [HIN.out, if_neg (by rw [List.getElem?_eq_none (by omega)]; intro h; cases h)])
        have KT := KP
        rcases N2.out.2 with ⟨hvn, hn0⟩ | ⟨gv, cap, cur, hvs, _, _, hn1, hcm, _, _⟩
        · injection hvn with e1 e2 e3
          subst e1 e3
          have e4 : ls = [] := List.eq_nil_of_length_eq_zero e2
          have e5 : k = 0 := by omega
          have e6 : vs = [] := List.eq_nil_of_length_eq_zero (by rw [N1.out]; exact e2)
          subst e4 e5 e6
          have hwt : b0 ≤ wr.heap.size := Nat.le_trans HB.out KT.out.size
          have P1 : Hid (SrcAt wr (.slice none 0 0) 1 0 []) := Lib.hid ⟨none, 0, rfl, rfl, .inl rfl⟩
          have HONE1 : Hid (∀ u ∈ ([] : List Value), u.oneCell' = true) := Lib.hid (fun u hu => by cases hu)
          clear hki hkl hn0 hke hKle
          simp only [List.length_nil] at *
          generalize wr = wt at *
          go_upto_region 8 with (at_builtin; refine wpList_append_lies _ rfl (.tmp 38) (.tmp 40) _ rfl b0 28 j0 _ 1 24 Tryd.underlying27 hj0 hy0 hy1 hy2 rfl (by omega) (.slice none 0 0) 0 [] rfl (World.ownsRow_nil _ _ _ _) ⟨wt.heap.size, 0, none⟩ 1 1 [.slice ax x.length cx] rfl rfl (World.news_of_block (heap_alloc_new _ _)) (by simp [Value.oneCell']) (by omega) (by unfold maxLen; omega) (by omega) (by simp; omega) (wt.heap.size + 1) (by simp) ?_; intro g2 cap2 w2 hown2 hgrow2 hat2 hlt2)
          have kg2 : Kp (fun z => (Value.slice none 0 0).ownBlock = some z) wt w2 := grown_no (Kp.alloc _) hgrow2
          have k2 : Kp No wt w2 := kg2.mono (fun z _ h => by simp [Value.ownBlock] at h)
          have hg2 : wt.heap.size ≤ g2 := by
            rcases hat2 with h | h
            · simp [Value.ownBlock] at h
            · omega
          have P2W : Hid (SrcAt w2 (.slice none 0 0) 1 0 []) := Lib.hid ⟨none, 0, rfl, rfl, .inl rfl⟩
          have hw2 : b0 ≤ w2.heap.size := Nat.le_trans hwt k2.size
          clear hgrow2 hat2 hlt2 kg2
          go_wp2_with (at_builtin; refine wpList_append_src rfl _ _ rfl (base := b0) (v := .slice (some ⟨g2, 0, none⟩) 1 cap2) Tryd.underlying27 hj0 hy0 hy1 hy2 rfl (by omega) rfl hown2 rfl P2W.out HONE1.out (by unfold maxLen; omega) (by omega) hw2 ?_; intro v3 w3 hown3 hgrow3 hat3)
          have DON : Hid (Nest A b0 w3 v3 (insL [] x) ∧ Kp No w w3) := Lib.hid (by
            have k3 : Kp No w w3 := (KT.out.trans_no k2).trans (A' := fun z => (Value.slice (some ⟨g2, 0, none⟩) 1 cap2).ownBlock = some z) (fun z hz => .inr (by simp [Value.ownBlock] at hz; have := KT.out.size; omega)) (Kp.grown hgrow3)
            refine ⟨?_, k3⟩
            rw [HRE.out]
            exact Nest.join (Nat.le_refl _) rfl N4.out XR.out rfl XA.out (fun z hz hz2 => by
              have hlt := HA.out z hz2
              have hwz := KT.out.size
              have h2z := k2.size
              rcases hat3 with h | h
              · rw [h] at hz; simp [Value.ownBlock] at hz; omega
              · rw [h] at hz; injection hz with hz; omega) k3 (by simpa using hown3))
          clear hown2 hown3 hgrow3 hat3 k2 P2W
          go_wp2_with fail
          go_ret
          exact ⟨_, rfl, DON.out.1, DON.out.2⟩
        · injection hvs with e1 e2 e3
          subst e1 e3
          clear hke
          go_upto_region 6 with fail
          generalize wr = wt at *
          by_cases hcl : k = cl
          · subst hcl
            have P1 := Lib.hid (SrcAt.part (ownsRow_kp N2.out KT.out (fun _ _ z => z)) (o := 0) (m := k) (c := k) (by omega))
            have P2 : Hid (∀ (y : World) (ky : Kp No wt y), SrcAt y (.slice (some ⟨gv, 0, none⟩) 0 0) 1 0 []) := Lib.hid (fun y ky => SrcAt.naught rfl rfl)
            have hkn : (k : Int) ≤ (ls.length : Int) := by omega
            have hkc : (k : Int) ≤ (k : Int) := by omega
            have hnc : (ls.length : Int) ≤ (k : Int) := by omega
            have hk0 : (0 : Int) ≤ (k : Int) := by omega
            have HONE1 : Hid (∀ u ∈ (vs.drop 0).take k, u.oneCell' = true) := Lib.hid (fun u hu => by
              obtain ⟨i, hi⟩ := List.mem_iff_getElem?.1 (List.mem_of_mem_drop (List.mem_of_mem_take hu))
              exact (N4.out i u hi).1)
            have HONE2 : Hid (∀ u ∈ ([] : List Value), u.oneCell' = true) := Lib.hid (fun u hu => by cases hu)
            have hwt : b0 ≤ wt.heap.size := Nat.le_trans HB.out KT.out.size
            go_upto_region 7 with (at_builtin; refine wpList_append_src rfl _ _ rfl (base := b0) (v := .slice none 0 0) Tryd.underlying27 hj0 hy0 hy1 hy2 rfl (by omega) rfl (World.ownsRow_nil _ _ _ _) rfl P1.out HONE1.out (by unfold maxLen; omega) (by omega) hwt ?_; intro v1 w1 hown1 hgrow1 hat1)
            have r1 : w1.ownsRow b0 28 1 v1 k (vs.take k) := by simpa using hown1
            obtain ⟨a1, c1', rfl⟩ := row_form r1
            have k1 : Kp No wt w1 := (Kp.grown hgrow1).mono (fun z _ h => by simp [Value.ownBlock] at h)
            have hv1 : ∀ z, (Value.slice a1 k c1').ownBlock = some z → wt.heap.size ≤ z := fun z hz => by
              rcases hat1 with h | h
              · rw [h] at hz; cases hz
              · rw [h] at hz; injection hz with hz; omega
            have hs1 : wt.heap.size ≤ w1.heap.size := k1.size
            clear hown1 hgrow1 hat1
            go_upto_region 8 with (at_builtin; refine wpList_append_lies _ rfl (.tmp 38) (.tmp 40) _ rfl b0 28 j0 _ 1 24 Tryd.underlying27 hj0 hy0 hy1 hy2 rfl (by omega) (.slice a1 k c1') k (vs.take k) rfl (r1.alloc _) ⟨w1.heap.size, 0, none⟩ 1 1 [.slice ax x.length cx] rfl rfl (World.news_of_block (heap_alloc_new _ _)) (by simp [Value.oneCell']) (by omega) (by unfold maxLen; omega) (by omega) (by simp; omega) (w1.heap.size + 1) (by simp) ?_; intro g2 cap2 w2 hown2 hgrow2 hat2 hlt2)
            have kg2 : Kp (fun z => (Value.slice a1 k c1').ownBlock = some z) w1 w2 := grown_no (Kp.alloc _) hgrow2
            have k2 : Kp No wt w2 := k1.trans (A' := fun z => (Value.slice a1 k c1').ownBlock = some z) (fun z hz => .inr (hv1 z hz)) kg2
            have hg2 : wt.heap.size ≤ g2 := by
              rcases hat2 with h | h
              · exact hv1 _ h
              · omega
            have P2W := Lib.hid (P2.out w2 k2)
            have hw2 : b0 ≤ w2.heap.size := Nat.le_trans hwt k2.size
            clear r1 k1 hv1 hs1 hgrow2 hat2 hlt2 kg2
            go_wp2_with (at_builtin; refine wpList_append_src rfl _ _ rfl (base := b0) (v := .slice (some ⟨g2, 0, none⟩) (k + 1) cap2) Tryd.underlying27 hj0 hy0 hy1 hy2 rfl (by omega) rfl hown2 rfl P2W.out HONE2.out (by unfold maxLen; omega) (by omega) hw2 ?_; intro v3 w3 hown3 hgrow3 hat3)
            have DON : Hid (Nest A b0 w3 v3 (insL ls x) ∧ Kp No w w3) := Lib.hid (by
              have k3 : Kp No w w3 := (KT.out.trans_no k2).trans (A' := fun z => (Value.slice (some ⟨g2, 0, none⟩) (k + 1) cap2).ownBlock = some z) (fun z hz => .inr (by simp [Value.ownBlock] at hz; have := KT.out.size; omega)) (Kp.grown hgrow3)
              refine ⟨?_, k3⟩
              rw [HRE.out]
              refine Nest.join (by omega) N1.out N4.out XR.out rfl XA.out (fun z hz hz2 => by
                have hlt := HA.out z hz2
                have hwz := KT.out.size
                have h2z := k2.size
                rcases hat3 with h | h
                · rw [h] at hz; simp [Value.ownBlock] at hz; omega
                · rw [h] at hz; injection hz with hz; omega) k3 ?_
              have h := hown3
              rw [List.append_nil] at h
              have e1 : ls.length - k = 0 := by omega
              have e2 : vs.drop k = [] := List.drop_eq_nil_of_le (by rw [N1.out]; omega)
              rw [e1, e2]
              exact h)
            clear hown2 hown3 hgrow3 hat3 k2 P2W
            go_wp2_with fail
            go_ret
            exact ⟨_, rfl, DON.out.1, DON.out.2⟩
          · have hcl2 : ¬ (k : Int) = cl := by omega
            have P1 := Lib.hid (SrcAt.part (ownsRow_kp N2.out KT.out (fun _ _ z => z)) (o := 0) (m := k) (c := cl) (by omega))
            have P2 := Lib.hid (fun (y : World) (ky : Kp No wt y) => SrcAt.part (ownsRow_kp N2.out (KT.out.trans_no ky) (fun _ _ z => z)) (o := k) (m := ls.length - k) (c := cl - k) (by omega))
            have hkn : (k : Int) ≤ (ls.length : Int) := by omega
            have hkc : (k : Int) ≤ (cl : Int) := by omega
            have hnc : (ls.length : Int) ≤ (cl : Int) := by omega
            have hk0 : (0 : Int) ≤ (k : Int) := by omega
            have HONE1 : Hid (∀ u ∈ (vs.drop 0).take k, u.oneCell' = true) := Lib.hid (fun u hu => by
              obtain ⟨i, hi⟩ := List.mem_iff_getElem?.1 (List.mem_of_mem_drop (List.mem_of_mem_take hu))
              exact (N4.out i u hi).1)
            have HONE2 : Hid (∀ u ∈ (vs.drop k).take (ls.length - k), u.oneCell' = true) := Lib.hid (fun u hu => by
              obtain ⟨i, hi⟩ := List.mem_iff_getElem?.1 (List.mem_of_mem_drop (List.mem_of_mem_take hu))
              exact (N4.out i u hi).1)
            have hwt : b0 ≤ wt.heap.size := Nat.le_trans HB.out KT.out.size
            go_upto_region 7 with (at_builtin; refine wpList_append_src rfl _ _ rfl (base := b0) (v := .slice none 0 0) Tryd.underlying27 hj0 hy0 hy1 hy2 rfl (by omega) rfl (World.ownsRow_nil _ _ _ _) rfl P1.out HONE1.out (by unfold maxLen; omega) (by omega) hwt ?_; intro v1 w1 hown1 hgrow1 hat1)
            have r1 : w1.ownsRow b0 28 1 v1 k (vs.take k) := by simpa using hown1
            obtain ⟨a1, c1', rfl⟩ := row_form r1
            have k1 : Kp No wt w1 := (Kp.grown hgrow1).mono (fun z _ h => by simp [Value.ownBlock] at h)
            have hv1 : ∀ z, (Value.slice a1 k c1').ownBlock = some z → wt.heap.size ≤ z := fun z hz => by
              rcases hat1 with h | h
              · rw [h] at hz; cases hz
              · rw [h] at hz; injection hz with hz; omega
            have hs1 : wt.heap.size ≤ w1.heap.size := k1.size
            clear hown1 hgrow1 hat1
            go_upto_region 8 with (at_builtin; refine wpList_append_lies _ rfl (.tmp 38) (.tmp 40) _ rfl b0 28 j0 _ 1 24 Tryd.underlying27 hj0 hy0 hy1 hy2 rfl (by omega) (.slice a1 k c1') k (vs.take k) rfl (r1.alloc _) ⟨w1.heap.size, 0, none⟩ 1 1 [.slice ax x.length cx] rfl rfl (World.news_of_block (heap_alloc_new _ _)) (by simp [Value.oneCell']) (by omega) (by unfold maxLen; omega) (by omega) (by simp; omega) (w1.heap.size + 1) (by simp) ?_; intro g2 cap2 w2 hown2 hgrow2 hat2 hlt2)
            have kg2 : Kp (fun z => (Value.slice a1 k c1').ownBlock = some z) w1 w2 := grown_no (Kp.alloc _) hgrow2
            have k2 : Kp No wt w2 := k1.trans (A' := fun z => (Value.slice a1 k c1').ownBlock = some z) (fun z hz => .inr (hv1 z hz)) kg2
            have hg2 : wt.heap.size ≤ g2 := by
              rcases hat2 with h | h
              · exact hv1 _ h
              · omega
            have P2W := Lib.hid (P2.out w2 k2)
            have hw2 : b0 ≤ w2.heap.size := Nat.le_trans hwt k2.size
            clear r1 k1 hv1 hs1 hgrow2 hat2 hlt2 kg2
            go_wp2_with (at_builtin; refine wpList_append_src rfl _ _ rfl (base := b0) (v := .slice (some ⟨g2, 0, none⟩) (k + 1) cap2) Tryd.underlying27 hj0 hy0 hy1 hy2 rfl (by omega) rfl hown2 rfl P2W.out HONE2.out (by unfold maxLen; omega) (by omega) hw2 ?_; intro v3 w3 hown3 hgrow3 hat3)
            have DON : Hid (Nest A b0 w3 v3 (insL ls x) ∧ Kp No w w3) := Lib.hid (by
              have k3 : Kp No w w3 := (KT.out.trans_no k2).trans (A' := fun z => (Value.slice (some ⟨g2, 0, none⟩) (k + 1) cap2).ownBlock = some z) (fun z hz => .inr (by simp [Value.ownBlock] at hz; have := KT.out.size; omega)) (Kp.grown hgrow3)
              refine ⟨?_, k3⟩
              rw [HRE.out]
              refine Nest.join (by omega) N1.out N4.out XR.out rfl XA.out (fun z hz hz2 => by
                have hlt := HA.out z hz2
                have hwz := KT.out.size
                have h2z := k2.size
                rcases hat3 with h | h
                · rw [h] at hz; simp [Value.ownBlock] at hz; omega
                · rw [h] at hz; injection hz with hz; omega) k3 ?_
              have h := hown3
              rw [List.take_of_length_le (l := vs.drop k) (by rw [List.length_drop, N1.out]; exact Nat.le_refl _), List.append_assoc, List.singleton_append] at h
              exact h)
            clear hown2 hown3 hgrow3 hat3 k2 P2W
            go_wp2_with fail
            go_ret
            exact ⟨_, rfl, DON.out.1, DON.out.2⟩

end Go.Proofs.YtohinonkfhkclaaDoor

namespace Go.Proofs.YtohinonkfhkclaaDoor
open Go.RowKit

/-! ### the order -/
theorem lexB_tr : ∀ (a b c : List Nat), a.length = b.length → b.length = c.length → lexB a b = true → lexB b c = true → lexB a c = true
  | [], _, _, _, _, h, _ => by simp [lexB] at h
  | _ :: _, [], _, h, _, _, _ => by simp at h
  | _ :: _, _ :: _, [], _, h, _, _ => by simp at h
  | x :: a, y :: b, z :: c, h1, h2, h3, h4 => by
    simp only [lexB] at *
    by_cases e1 : x = y
    · subst e1
      by_cases e2 : x = z
      · subst e2
        simp only [if_true] at *
        exact lexB_tr a b c (by simpa using h1) (by simpa using h2) h3 h4
      · rw [if_neg e2] at *; exact h4
    · rw [if_neg e1] at h3
      have h3' := of_decide_eq_true h3
      by_cases e2 : y = z
      · subst e2; rw [if_neg e1]; exact h3
      · rw [if_neg e2] at h4
        have h4' := of_decide_eq_true h4
        rw [if_neg (by omega)]; exact decide_eq_true (by omega)
theorem lexB_tri : ∀ (a b : List Nat), a.length = b.length → a ≠ b → lexB a b = false → lexB b a = true
  | [], [], _, h, _ => absurd rfl h
  | [], _ :: _, h, _, _ => by simp at h
  | _ :: _, [], h, _, _ => by simp at h
  | x :: a, y :: b, h1, h2, h3 => by
    simp only [lexB] at *
    by_cases e1 : x = y
    · subst e1
      simp only [if_true] at *
      exact lexB_tri a b (by simpa using h1) (fun h => h2 (by rw [h])) h3
    · rw [if_neg e1] at h3
      have h3' := of_decide_eq_false h3
      rw [if_neg (fun h => e1 h.symm)]; exact decide_eq_true (by omega)
theorem befB_tr {a b c : List Nat} (h1 : befB a b = true) (h2 : befB b c = true) : befB a c = true := by
  unfold befB at *
  by_cases e1 : a.length = b.length
  · rw [if_pos e1] at h1
    by_cases e2 : b.length = c.length
    · rw [if_pos e2] at h2
      rw [if_pos (by omega)]; exact lexB_tr a b c e1 e2 h1 h2
    · rw [if_neg e2] at h2
      rw [if_neg (by omega)]; have := of_decide_eq_true h2; exact decide_eq_true (by omega)
  · rw [if_neg e1] at h1
    have g1 := of_decide_eq_true h1
    by_cases e2 : b.length = c.length
    · rw [if_neg (by omega)]; exact decide_eq_true (by omega)
    · rw [if_neg e2] at h2
      have := of_decide_eq_true h2
      rw [if_neg (by omega)]; exact decide_eq_true (by omega)
theorem befB_same (a : List Nat) : befB a a = false := by unfold befB; rw [if_pos rfl]; exact lexB_same a
theorem befB_tri {a b : List Nat} (h1 : a ≠ b) (h2 : befB a b = false) : befB b a = true := by
  unfold befB at *
  by_cases e1 : a.length = b.length
  · rw [if_pos e1] at h2; rw [if_pos e1.symm]; exact lexB_tri a b e1 h1 h2
  · rw [if_neg e1] at h2
    have := of_decide_eq_false h2
    rw [if_neg (fun h => e1 h.symm)]; exact decide_eq_true (by omega)

def SrtB (l : List (List Nat)) : Prop := l.Pairwise fun a b => befB a b = true
theorem SrtB.eq : ∀ {l m : List (List Nat)}, SrtB l → SrtB m → (∀ c, c ∈ l ↔ c ∈ m) → l = m
  | [], [], _, _, _ => rfl
  | [], y :: m, _, _, h => by have := (h y).2 (.head _); cases this
  | x :: l, [], _, _, h => by have := (h x).1 (.head _); cases this
  | x :: l, y :: m, h1, h2, h => by
    obtain ⟨p1, q1⟩ := List.pairwise_cons.1 h1
    obtain ⟨p2, q2⟩ := List.pairwise_cons.1 h2
    have e : x = y := by
      rcases List.mem_cons.1 ((h x).1 (.head _)) with e | e
      · exact e
      · rcases List.mem_cons.1 ((h y).2 (.head _)) with e' | e'
        · exact e'.symm
        · have := befB_tr (p1 y e') (p2 x e)
          rw [befB_same] at this; cases this
    subst e
    rw [SrtB.eq q1 q2 (fun c => ?_)]
    constructor
    · intro hc
      rcases List.mem_cons.1 ((h c).1 (.tail _ hc)) with e | e
      · have := p1 c hc; rw [e, befB_same] at this; cases this
      · exact e
    · intro hc
      rcases List.mem_cons.1 ((h c).2 (.tail _ hc)) with e | e
      · have := p2 c hc; rw [e, befB_same] at this; cases this
      · exact e
theorem insL_cons (y : List Nat) (l : List (List Nat)) (x : List Nat) : insL (y :: l) x = if befB y x = true then y :: insL l x else if y = x then y :: l else x :: y :: l := by
  by_cases hy : befB y x = true
  · rw [if_pos hy]
    have e : insK (y :: l) x = insK l x + 1 := by simp only [insK]; rw [if_pos hy]
    unfold insL
    rw [e, List.getElem?_cons_succ]
    split
    · rfl
    · rw [List.take_succ_cons, List.drop_succ_cons]; rfl
  · rw [if_neg hy]
    have e : insK (y :: l) x = 0 := by simp only [insK]; rw [if_neg hy]
    unfold insL
    rw [e, List.getElem?_cons_zero]
    by_cases h : y = x
    · rw [if_pos (by rw [h]), if_pos h]
    · rw [if_neg (fun h2 => h (Option.some.inj h2)), if_neg h]; rfl
theorem insL_mem : ∀ (l : List (List Nat)) (x c : List Nat), c ∈ insL l x ↔ c = x ∨ c ∈ l
  | [], x, c => by
    have : insL [] x = [x] := rfl
    rw [this]; simp
  | y :: l, x, c => by
    rw [insL_cons]
    split
    · rw [List.mem_cons, insL_mem l x c, List.mem_cons]
      constructor
      · rintro (h | h | h)
        · exact .inr (.inl h)
        · exact .inl h
        · exact .inr (.inr h)
      · rintro (h | h | h)
        · exact .inr (.inl h)
        · exact .inl h
        · exact .inr (.inr h)
    · split
      · rename_i h
        subst h
        constructor
        · exact fun h => .inr h
        · rintro (h | h)
          · rw [h]; exact .head _
          · exact h
      · rw [List.mem_cons]
theorem insL_srt : ∀ (l : List (List Nat)) (x : List Nat), SrtB l → SrtB (insL l x)
  | [], x, _ => by
    have : insL [] x = [x] := rfl
    rw [this]; exact List.pairwise_singleton _ _
  | y :: l, x, h => by
    obtain ⟨p1, q1⟩ := List.pairwise_cons.1 h
    rw [insL_cons]
    split
    · rename_i hb
      refine List.pairwise_cons.2 ⟨fun c hc => ?_, insL_srt l x q1⟩
      rcases (insL_mem l x c).1 hc with e | e
      · rw [e]; exact hb
      · exact p1 c e
    · split
      · exact h
      · rename_i hb hne
        have hx : befB x y = true := befB_tri hne (by simpa using hb)
        refine List.pairwise_cons.2 ⟨fun c hc => ?_, h⟩
        rcases List.mem_cons.1 hc with e | e
        · rw [e]; exact hx
        · exact befB_tr hx (p1 c e)
theorem insL_len (l : List (List Nat)) (x : List Nat) : (insL l x).length ≤ l.length + 1 := by
  unfold insL
  split
  · omega
  · have := insK_le l x; simp; omega

/-! ### all sets of at most two links -/
def allU : List (List Nat) := setsL (fun _ => true) 12 2
def srtC : List (List Nat) → Bool
  | [] => true
  | x :: l => l.all (fun y => befB x y) && srtC l
theorem srtC_ok : ∀ l, srtC l = true → SrtB l
  | [], _ => List.Pairwise.nil
  | x :: l, h => by
    simp only [srtC, Bool.and_eq_true] at h
    exact List.pairwise_cons.2 ⟨fun y hy => List.all_eq_true.1 h.1 y hy, srtC_ok l h.2⟩
theorem allU_srt : SrtB allU := srtC_ok _ (by decide +kernel)
theorem sets_part : ((List.range 13).all fun L => (List.range 3).all fun K => decide (setsL (fun _ => true) L K = allU.filter fun c => decide (c.length ≤ K) && c.all fun v => decide (v < L))) = true := by decide +kernel
theorem allU_dn : (allU.all fun c => decide (c = dnL (fun v => decide (v ∈ c)) 12)) = true := by decide +kernel
theorem dw_small : ((List.range 4096).all fun s => !decide ((dwL s).length ≤ 2) || decide (dwL s ∈ allU)) = true := by decide +kernel
theorem dw_last : ((List.range 4096).all fun s => (dwL s).all fun v => decide (v ≤ (dwL s).getD ((dwL s).length - 1) 0)) = true := by decide +kernel
theorem dwL_mod (s : Nat) : dwL s = dwL (s % 4096) := dwL_ext fun v hv => by
  rw [show (4096 : Nat) = 2 ^ 12 from rfl, Nat.testBit_mod_two_pow]; simp [hv]
theorem dwL_in (s : Nat) (h : (dwL s).length ≤ 2) : dwL s ∈ allU := by
  rw [dwL_mod] at *
  have := List.all_eq_true.1 dw_small (s % 4096) (List.mem_range.2 (Nat.mod_lt _ (by omega)))
  simpa [h] using this
theorem dwL_last (s : Nat) {v : Nat} (hv : v ∈ dwL s) : v ≤ (dwL s).getD ((dwL s).length - 1) 0 := by
  rw [dwL_mod] at *
  have := List.all_eq_true.1 dw_last (s % 4096) (List.mem_range.2 (Nat.mod_lt _ (by omega)))
  have := List.all_eq_true.1 this v hv
  exact of_decide_eq_true this
theorem setsUp_true (F : Bfn) (L : Nat) : ∀ s, setsUp F L s = (setsUp (fun _ => true) L s).filter (inF F)
  | 0 => rfl
  | s + 1 => by
    rw [setsUp_succ, setsUp_succ, List.filter_append, ← setsUp_true F L s]
    congr 1
    rw [List.filter_filter]
    exact List.filter_congr (fun c _ => by simp [inF])
theorem setsL_part (F : Bfn) {L K : Nat} (hL : L ≤ 12) (hK : K ≤ 2) : setsL F L K = (allU.filter fun c => decide (c.length ≤ K) && c.all fun v => decide (v < L)).filter (inF F) := by
  have := List.all_eq_true.1 sets_part L (List.mem_range.2 (by omega))
  have := of_decide_eq_true (List.all_eq_true.1 this K (List.mem_range.2 (by omega)))
  rw [← this]
  exact setsUp_true F L _

/-! ### the law -/
def exS (s : Nat) : Bfn := exF (dnF ((dwL s).map Int.ofNat)) 12
def orF (ss : List Nat) : Bfn := fun a => ss.any fun s => exS s a
theorem orF_rd (ss : List Nat) : Rd 0 12 (orF ss) := by
  intro a b h
  unfold orF
  induction ss with
  | nil => rfl
  | cons s ss ih =>
    have := exF_rd (dnF ((dwL s).map Int.ofNat)) 12 (Nat.le_refl _) a b h
    simp only [List.any_cons, ih]
    rw [show exS s a = exS s b from this]
theorem orF_take (ss : List Nat) {i : Nat} (h : i < ss.length) : orF (ss.take (i + 1)) = fun a => orF (ss.take i) a || exS ss[i] a := by
  funext a
  unfold orF
  rw [List.take_add_one, List.getElem?_eq_getElem h, List.any_append]
  simp only [Option.toList, List.any_cons, List.any_nil, Bool.or_false]
theorem exS_mem (s : Nat) {c : List Nat} (hc : c ∈ allU) : inF (exS s) c = true ↔ c = dwL s := by
  unfold inF exS
  rw [exF_eq _ _ 12 (Nat.le_refl _)]
  constructor
  · intro h
    have e := of_decide_eq_true (List.all_eq_true.1 allU_dn c hc)
    rw [e]
    unfold dwL dnL
    refine List.filter_congr fun v hv => ?_
    have hv := List.mem_range.1 hv
    have := h v (by omega) hv
    rw [this, dnF_map, Bool.eq_iff_iff, decide_eq_true_eq, dwL_mem]
    exact ⟨fun h => h.2, fun h => ⟨hv, h⟩⟩
  · rintro rfl v _ hv
    rw [dnF_map]
def okS (links k : Int) (s : Nat) : Bool := decide (((dwL s).length : Int) ≤ max k (-1)) && decide (dwL s = [] ∨ ((dwL s).getD ((dwL s).length - 1) 0 : Int) < clamp3 links 0 12)
def wantL (links k : Int) (ss : List Nat) : List (List Nat) := ss.foldl (fun l s => if okS links k s = true then insL l (dwL s) else l) []
theorem wantL_take (links k : Int) (ss : List Nat) {i : Nat} (h : i < ss.length) : wantL links k (ss.take (i + 1)) = if okS links k ss[i] = true then insL (wantL links k (ss.take i)) (dwL ss[i]) else wantL links k (ss.take i) := by
  unfold wantL
  rw [List.take_add_one, List.getElem?_eq_getElem h, List.foldl_append]; rfl
theorem wantL_all (links k : Int) (ss : List Nat) : ∀ i, i ≤ ss.length → SrtB (wantL links k (ss.take i)) ∧ (∀ c, c ∈ wantL links k (ss.take i) ↔ ∃ s, s ∈ ss.take i ∧ okS links k s = true ∧ c = dwL s) ∧ (wantL links k (ss.take i)).length ≤ i
  | 0, _ => by
    refine ⟨by simp [wantL, SrtB], fun c => ?_, by simp [wantL]⟩
    simp [wantL]
  | i + 1, h => by
    obtain ⟨h1, h2, h3⟩ := wantL_all links k ss i (by omega)
    have hm : ∀ s, s ∈ ss.take (i + 1) ↔ s ∈ ss.take i ∨ s = ss[i] := fun s => by
      rw [List.take_add_one, List.getElem?_eq_getElem (by omega), List.mem_append]
      simp only [Option.toList, List.mem_singleton]
    rw [wantL_take links k ss (by omega)]
    by_cases ho : okS links k ss[i] = true
    · rw [if_pos ho]
      refine ⟨insL_srt _ _ h1, fun c => ?_, by have := insL_len (wantL links k (ss.take i)) (dwL ss[i]); omega⟩
      rw [insL_mem, h2]
      constructor
      · rintro (e | ⟨s, g1, g2, g3⟩)
        · exact ⟨ss[i], (hm _).2 (.inr rfl), ho, e⟩
        · exact ⟨s, (hm _).2 (.inl g1), g2, g3⟩
      · rintro ⟨s, g1, g2, g3⟩
        rcases (hm s).1 g1 with g | g
        · exact .inr ⟨s, g, g2, g3⟩
        · rw [g] at g3; exact .inl g3
    · rw [if_neg ho]
      refine ⟨h1, fun c => ?_, by omega⟩
      rw [h2]
      constructor
      · rintro ⟨s, g1, g2, g3⟩
        exact ⟨s, (hm _).2 (.inl g1), g2, g3⟩
      · rintro ⟨s, g1, g2, g3⟩
        rcases (hm s).1 g1 with g | g
        · exact ⟨s, g, g2, g3⟩
        · rw [g] at g2; exact absurd g2 ho
theorem okS_eq (links : Int) {k : Int} (h0 : 0 ≤ k) (s : Nat) : okS links k s = (decide ((dwL s).length ≤ k.toNat) && (dwL s).all fun v => decide (v < clN links 12)) := by
  unfold okS
  rw [← clN_clamp]
  have hm : max k (-1) = k := by omega
  rw [hm, Bool.eq_iff_iff, Bool.and_eq_true, Bool.and_eq_true, decide_eq_true_eq, decide_eq_true_eq, decide_eq_true_eq, List.all_eq_true]
  refine and_congr (by omega) ?_
  constructor
  · rintro (h | h) v hv
    · rw [h] at hv; cases hv
    · have := dwL_last s hv
      exact decide_eq_true (by omega)
  · intro h
    rcases List.eq_nil_or_concat (dwL s) with e | ⟨l, b, e⟩
    · exact .inl e
    · refine .inr ?_
      have hb : (dwL s).getD ((dwL s).length - 1) 0 = b := by rw [e]; simp
      have := of_decide_eq_true (h b (by rw [e]; simp))
      rw [hb]; omega
theorem lists_eq (ss : List Nat) (links : Int) {k : Int} (h0 : 0 ≤ k) (h2 : k ≤ 2) : setsL (orF ss) (clN links 12) k.toNat = wantL links k ss := by
  obtain ⟨w1, w2, _⟩ := wantL_all links k ss ss.length (Nat.le_refl _)
  rw [List.take_length] at w1 w2
  rw [setsL_part _ (clN_le _ _) (by omega)]
  refine SrtB.eq ((allU_srt.filter _).filter _) w1 fun c => ?_
  rw [w2, List.mem_filter, List.mem_filter]
  constructor
  · rintro ⟨⟨g1, g2⟩, g3⟩
    obtain ⟨s, hs, e⟩ := List.any_eq_true.1 g3
    have hc := (exS_mem s g1).1 e
    refine ⟨s, hs, ?_, hc⟩
    rw [okS_eq links h0, ← hc]; exact g2
  · rintro ⟨s, hs, ho, rfl⟩
    rw [okS_eq links h0] at ho
    have hu := dwL_in s (by
      have := of_decide_eq_true (Bool.and_eq_true_iff.1 ho).1
      omega)
    exact ⟨⟨hu, ho⟩, List.any_eq_true.2 ⟨s, hs, (exS_mem s hu).2 rfl⟩⟩

end Go.Proofs.YtohinonkfhkclaaDoor
