/-
  Walks: 'Swap' of the package reorder.
-/
import Derived.Test.YtngbodmooddjbaaGreatAk
import Derived.Test.YtngbodmooddjbaaGreatSaveP
import Derived.Deep.RegionHeld3
import Derived.Deep.RegionLaw
import Derived.Deep.CutBlock
import Derived.Deep.QuietTactic
import Derived.BigQuiet
namespace Go.Proofs.YtngbodmooddjbaaGreat
open Go.RowKit

/-- What a change of the order leaves. -/
def ArS (w : World) (p : Nat) (M : Mgr) (L : Lay) (l : List Nat) (w' : World) : Prop :=
  ∃ (M' : Mgr) (L' : Lay), Rep w' p M' L' ∧ M'.order = l ∧ (∀ f, M'.vis f = M.vis f) ∧ (∀ f, M.vis f = true → ∀ a, M'.sem f a = M.sem f a) ∧ M'.nodes.length ≤ M.nodes.length + ((visF M).length * 3 ^ M.n + M.n + 2) ∧
    Kp (L.at p) w w' ∧ ∀ k, L'.at p k → L.at p k ∨ w.heap.size ≤ k
/-- The world ahead may be another. -/
theorem ArS.from {w0 w w' : World} {p : Nat} {M : Mgr} {L : Lay} {l : List Nat} (k : Kp No w0 w) (h : ArS w p M L l w') : ArS w0 p M L l w' := by
  obtain ⟨M', L', r, o, v, s, n, kp, f⟩ := h
  exact ⟨M', L', r, o, v, s, n, k.no_trans kp, fun x hx => by
    rcases f x hx with h | h
    · exact .inl h
    · right; have := k.size; omega⟩
set_option maxRecDepth 100000 in
set_option maxHeartbeats 1000000 in
theorem Total_ok {p : Nat} {M : Mgr} {L : Lay} (fs : List Int) {fsv : Value} {w : World} (R : Rep w p M L) (hfs : SrcAt w fsv 1 fs.length (fs.map intV)) (hfl : fs.length ≤ 1000000) (hnl : M.nodes.length < big) :
    Calls Tryz.prog 17 #[ptr p, fsv] w fun e w' => e = .returned (.int .i64 ((saveN M (saveM M fs).1.2).length : Int)) ∧ Kp No w w' := by
  have SV := Lib.hid (Save_ok fs R hfs hfl hnl)
  obtain ⟨ao, c, rfl⟩ := hfs.form
  clear R hfs hfl hnl
  go_enter Tryz.func17, Tryz.ntmps17
  go_wp2_with fail
  refine SV.out.mono ?_
  rintro e w' ⟨nv, rv, rfl, h1, h2, k⟩
  obtain ⟨an, cn, rfl, _⟩ := ownsRow_len (row_zero h1)
  have K := Lib.hid k
  clear h1 h2 k SV
  go_wp2_with fail
  go_ret
  exact ⟨rfl, K.out⟩

def swO (l : List Nat) (k : Nat) : List Nat := (l.set k (l.getD (k + 1) 0)).set (k + 1) (l.getD k 0)
theorem swO_len (l : List Nat) (k : Nat) : (swO l k).length = l.length := by simp [swO]
theorem swO_get {l : List Nat} {k : Nat} (h : k + 1 < l.length) (i : Nat) : (swO l k).getD i 0 = if i = k + 1 then l.getD k 0 else if i = k then l.getD (k + 1) 0 else l.getD i 0 := by
  unfold swO
  rw [List.getD_eq_getElem?_getD, List.getElem?_set]
  by_cases h1 : k + 1 = i
  · subst h1
    rw [if_pos rfl, if_pos (by simpa using h), if_pos rfl]; rfl
  · rw [if_neg h1, List.getElem?_set, if_neg (Ne.symm h1)]
    by_cases h2 : k = i
    · subst h2
      rw [if_pos rfl, if_pos (by omega), if_pos rfl]; rfl
    · rw [if_neg h2, if_neg (Ne.symm h2), ← List.getD_eq_getElem?_getD]
theorem swO_twice {l : List Nat} {k : Nat} (h : k + 1 < l.length) : swO (swO l k) k = l := by
  apply List.ext_getElem
  · rw [swO_len, swO_len]
  · intro i h1 h2
    have e : (swO (swO l k) k).getD i 0 = l.getD i 0 := by
      rw [swO_get (by rw [swO_len]; exact h), swO_get h, swO_get h, swO_get h]
      by_cases e1 : i = k + 1
      · subst e1; simp
      · by_cases e2 : i = k
        · subst e2; simp
        · simp [e1, e2]
    rw [List.getD_eq_getElem?_getD, List.getD_eq_getElem?_getD, List.getElem?_eq_getElem h1, List.getElem?_eq_getElem h2] at e
    exact e
theorem PermL.sw {l : List Nat} {k : Nat} (h : PermL l) (hk : k + 1 < l.length) : PermL (swO l k) := by
  refine ⟨?_, fun v hv => ?_⟩
  · rw [List.nodup_iff_pairwise_ne, List.pairwise_iff_getElem]
    intro i j hi hj hij e
    rw [swO_len] at hi hj
    have ei : (swO l k)[i] = (swO l k).getD i 0 := by rw [List.getD_eq_getElem?_getD, List.getElem?_eq_getElem (by rw [swO_len]; exact hi)]; rfl
    have ej : (swO l k)[j] = (swO l k).getD j 0 := by rw [List.getD_eq_getElem?_getD, List.getElem?_eq_getElem (by rw [swO_len]; exact hj)]; rfl
    rw [ei, ej, swO_get hk, swO_get hk] at e
    have inj : ∀ {a b : Nat}, a < l.length → b < l.length → l.getD a 0 = l.getD b 0 → a = b := fun ha hb e => h.inj ha hb e
    split at e <;> split at e <;> (try split at e) <;> (try split at e) <;> first | omega | (have := inj (by omega) (by omega) e; omega)
  · obtain ⟨i, hi, rfl⟩ := List.getElem_of_mem hv
    have hi' := hi
    rw [swO_len] at hi' ⊢
    have ei : (swO l k)[i] = (swO l k).getD i 0 := by rw [List.getD_eq_getElem?_getD, List.getElem?_eq_getElem hi]; rfl
    rw [ei, swO_get hk]
    split
    · exact h.lt (by omega)
    · split
      · exact h.lt (by omega)
      · exact h.lt hi'

set_option maxRecDepth 100000 in
set_option maxHeartbeats 2000000 in
theorem Swap_bad {p : Nat} {M : Mgr} {L : Lay} {w : World} (v : Int) (R : Rep w p M L) (hn : M.n ≤ 256) (h : v < 0 ∨ (M.n : Int) - 1 ≤ v) :
    Calls Tryz.prog 25 #[ptr p, .int .i64 v] w fun e w' => e = .returned (.bool false) ∧ Kp No w w' := by
  have VS := Lib.hid (vars_ok R)
  unfold natV at VS
  have hn' : (M.n : Int) ≤ 256 := by omega
  clear R
  by_cases hv : v < 0
  · clear h VS
    go_enter Tryz.func25, Tryz.ntmps25
    go_wp2_with fail
    go_ret
    exact ⟨rfl, Kp.refl _ _⟩
  · have hv2 : (M.n : Int) - 1 ≤ v := by omega
    clear h
    go_enter Tryz.func25, Tryz.ntmps25
    go_wp2_with (go_at_call 58; refine VS.out.mono ?_; rintro e w' ⟨rfl, rfl⟩)
    go_ret
    exact ⟨rfl, Kp.refl _ _⟩

end Go.Proofs.YtngbodmooddjbaaGreat

namespace Go.Proofs.YtngbodmooddjbaaGreat
open Go.RowKit

set_option maxRecDepth 100000 in
set_option maxHeartbeats 4000000 in
theorem Swap_ok {p : Nat} {M : Mgr} {L : Lay} {w : World} (k : Nat) (R : Rep w p M L) (hn : M.n ≤ 256) (hk : k + 1 < M.n) (hb : (visF M).length * 3 ^ M.n + M.n + 2 ≤ big) (hm : M.nodes.length ≤ 500000000000) :
    Calls Tryz.prog 25 #[ptr p, .int .i64 (k : Int)] w fun e w' => e = .returned (.bool true) ∧ ArS w p M L (swO M.order k) w' := by
  have VS := Lib.hid (vars_ok R)
  unfold natV at VS
  have OS := Lib.hid (Order_ok R hn)
  have hlen : M.order.length = M.n := rfl
  have hki : (k : Int) < (M.n : Int) - 1 := by omega
  have RR := Lib.hid R
  have ARR : Hid (∀ (w2 : World) (g cap : Nat), Kp No w w2 → w2.ownsRow 0 3 1 (.slice (some ⟨g, 0, none⟩) M.order.length cap) M.order.length ((swO M.order k).map natV) →
      Calls Tryz.prog 60 #[ptr p, .slice (some ⟨g, 0, none⟩) M.order.length cap] w2 (ArPost w2 p M L (swO M.order k))) := Lib.hid (fun w2 g cap k2 h2 =>
    Arrange_ok (RR.out.no k2) (RR.out.wf.perm.sw (by omega)) (swO_len _ _) hn (by have := SrcAt.of_row h2; rw [swO_len]; exact this) hb hm)
  clear R hb hm
  have HKN := Lib.hid hk
  clear hk
  go_enter Tryz.func25, Tryz.ntmps25
  go_wp2_with (go_at_call 58; refine VS.out.mono ?_; rintro e w' ⟨rfl, rfl⟩)
  refine OS.out.mono ?_
  rintro e w1 ⟨ov, rfl, orow, k1⟩
  have hpos : k + 1 < M.order.length := HKN.out
  obtain ⟨g, cap, rfl, hc1, hc2, _, hcl, hzl⟩ := ownsRow_open (row_zero orow) (by omega)
  have d0 := hcl k (natV (M.order.getD k 0)) (natsAt_get (by omega))
  have d1 := hcl (k + 1) (natV (M.order.getD (k + 1) 0)) (natsAt_get hpos)
  have z0 := hzl k
  have z1 := hzl (k + 1)
  have glt := World.block_lt_of_cell? _ _ d0
  have OROW := Lib.hid orow
  have KK1 := Lib.hid k1
  have hcap : M.order.length ≤ 256 := hn
  unfold natV at d0 d1
  clear orow k1 hcl hzl OS VS
  generalize hA : M.order.getD k 0 = a at *
  generalize hB : M.order.getD (k + 1) 0 = b at *
  have HA := Lib.hid hA
  have HBB := Lib.hid hB
  clear hA hB
  go_upto_region 4 with fail
  have KS : ∀ (X : World) (i : Nat) (u : Value), Kp (fun z => z = g) X (X.setCell ⟨g, i, none⟩ u) := fun X i u => (Kp.setCell _ _).mono (fun _ _ e => e)
  have K2 : Hid (Kp No w ((w1.setCell ⟨g, k, none⟩ (.int .i64 (b : Int))).setCell ⟨g, k + 1, none⟩ (.int .i64 (a : Int))).drew) := Lib.hid
    ((KK1.out.trans (A := No) (A' := fun z => z = g) (fun z e => .inr (by rw [e]; exact (OROW.out.lt g rfl).1)) ((KS w1 k (.int .i64 (b : Int))).trans (A' := fun z => z = g) (fun _ e => .inl e) (KS _ (k + 1) (.int .i64 (a : Int))))).trans_no Kp.drew)
  have R2 : Hid (((w1.setCell ⟨g, k, none⟩ (.int .i64 (b : Int))).setCell ⟨g, k + 1, none⟩ (.int .i64 (a : Int))).drew.ownsRow 0 3 1 (.slice (some ⟨g, 0, none⟩) M.order.length cap) M.order.length ((swO M.order k).map natV)) := Lib.hid (by
    have h := ownsRow_store (ownsRow_store (row_zero OROW.out) k (.int .i64 (b : Int))) (k + 1) (.int .i64 (a : Int))
    have e : (swO M.order k).map natV = ((M.order.map natV).set k (.int .i64 (b : Int))).set (k + 1) (.int .i64 (a : Int)) := by
      unfold swO
      rw [HA.out, HBB.out, List.map_set, List.map_set]; rfl
    rw [e]
    exact h)
  have AC := Lib.hid (ARR.out _ g cap K2.out R2.out)
  clear KS R2
  go_region
  clear d0 d1 z0 z1 glt
  generalize ((w1.setCell ⟨g, k, none⟩ (.int .i64 (b : Int))).setCell ⟨g, k + 1, none⟩ (.int .i64 (a : Int))).drew = w3 at *
  go_wp2_with fail
  refine AC.out.mono ?_
  intro e w4 h4
  obtain ⟨rfl, h5⟩ := h4
  have h6 : ArS w3 p M L (swO M.order k) w4 := h5
  have RET := Lib.hid (h6.from K2.out)
  clear h5 h6
  go_wp2_with fail
  go_ret
  exact ⟨rfl, RET.out⟩

end Go.Proofs.YtngbodmooddjbaaGreat
