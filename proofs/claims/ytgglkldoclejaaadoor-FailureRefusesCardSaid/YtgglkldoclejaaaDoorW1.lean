/-
  Walks: the small functions of the package bdd.
-/
import Derived.Test.YtgglkldoclejaaaDoorRep
import Derived.Deep.QuietTactic
import Derived.BigQuiet
import Derived.Deep.RegionLaw
import Derived.Deep.DeepCutAuto
namespace Go.Proofs.YtgglkldoclejaaaDoor
open Go.RowKit

set_option maxHeartbeats 400000 in
theorem constant_any (n : Int) (w : World) :
    Calls Tryd.prog 63 #[.int .i64 n] w fun e w' => e = .returned (.bool (n == 0 || n == 1)) ∧ w = w' := by
  by_cases h0 : n = 0
  · subst h0
    go_enter Tryd.func63, Tryd.ntmps63
    go_wp2
    go_ret
    exact ⟨rfl, rfl⟩
  · have h1 : (n == 0) = false := by simpa using h0
    go_enter Tryd.func63, Tryd.ntmps63
    go_wp2
    go_ret
    simp [h1]

theorem constant_yes (n : Nat) (w : World) (h : n < 2) :
    Calls Tryd.prog 63 #[.int .i64 n] w fun e w' => e = .returned (.bool true) ∧ w = w' := by
  have h1 : ((n : Int) == 0 || (n : Int) == 1) = true := by simp; omega
  rw [← h1]; exact constant_any n w
theorem constant_no (n : Nat) (w : World) (h : 2 ≤ n) :
    Calls Tryd.prog 63 #[.int .i64 n] w fun e w' => e = .returned (.bool false) ∧ w = w' := by
  have h1 : ((n : Int) == 0 || (n : Int) == 1) = false := by simp; omega
  rw [← h1]; exact constant_any n w

/-- The Refs that are valid. -/
def Mgr.valid (M : Mgr) (f : Int) : Bool := decide (0 ≤ f) && M.vis f.toNat

theorem maxLen_val : maxLen = 9223372036854775807 := rfl

theorem Rep.any {w : World} {p : Nat} {M : Mgr} {L : Lay} (R : Rep w p M L) : ∃ F, Raw w p L M.order M.level M.nodes M.shown M.free M.uq F ∧ M.Sound F := R.raw

set_option maxHeartbeats 400000 in
theorem valid_ok {p : Nat} {M : Mgr} {L : Lay} (n : Int) {w : World} (R : Rep w p M L) :
    Calls Tryd.prog 31 #[ptr p, .int .i64 n] w fun e w' => e = .returned (.bool (M.valid n)) ∧ w = w' := by
  obtain ⟨F, raw, _⟩ := R.raw
  have c3 := raw.c3
  have two := R.wf.two
  have hsh := R.wf.sh
  obtain ⟨bs, cap, hv, h1, h2, _, hcell, _⟩ := ownsRow_open raw.shown (by omega)
  rw [hv] at c3
  have hm := maxLen_val
  have hle : M.shown.length ≤ 9223372036854775807 := by omega
  by_cases hn : n < 0
  · have e : M.valid n = false := by
      have h0 : ¬ 0 ≤ n := by omega
      simp [Mgr.valid, h0]
    rw [e]
    clear c3 hcell
    go_enter Tryd.func31, Tryd.ntmps31
    go_wp2
    go_ret
    exact ⟨rfl, rfl⟩
  · have hn' : 0 ≤ n := by omega
    by_cases hb : (M.shown.length : Int) ≤ n
    · have e : M.valid n = false := by
        have : M.shown[n.toNat]? = none := List.getElem?_eq_none (by omega)
        simp [Mgr.valid, Mgr.vis, this]
      rw [e]
      clear hcell hsh two hm raw e hv R h1
      generalize M.shown.length = ns at *
      go_enter Tryd.func31, Tryd.ntmps31
      go_wp2
      go_ret
      exact ⟨rfl, rfl⟩
    · have hb' : n < (M.shown.length : Int) := by omega
      have e : M.valid n = M.vis n.toNat := by simp [Mgr.valid, hn']
      have hget : (M.shown.map Value.bool)[n.toNat]? = some (.bool (M.vis n.toNat)) := by
        have : n.toNat < M.shown.length := by omega
        simp [Mgr.vis, this]
      have hc := hcell _ _ hget
      rw [e]
      clear hcell hsh two hm raw e hv R h1 hget hb
      generalize M.shown.length = ns at *
      generalize M.vis n.toNat = b at *
      go_enter Tryd.func31, Tryd.ntmps31
      go_wp2
      go_ret
      exact ⟨rfl, rfl⟩

theorem valid_as {p : Nat} {M : Mgr} {L : Lay} (n : Int) (b : Bool) {w : World} (R : Rep w p M L) (h : M.valid n = b) :
    Calls Tryd.prog 31 #[ptr p, .int .i64 n] w fun e w' => e = .returned (.bool b) ∧ w = w' := by
  rw [← h]; exact valid_ok n R

/-- The length of an owned row of one cell each, or nil. -/
theorem ownsRow_len {w : World} {e size n : Nat} {v : Value} {xs : List Value} (h : w.ownsRow 0 e size v n xs) : ∃ a c, v = .slice a n c ∧ n ≤ maxLen := by
  rcases h.2 with ⟨rfl, rfl⟩ | ⟨g, cap, cur, rfl, _, _, h1, h2, _⟩
  · exact ⟨none, 0, rfl, by simp [maxLen_val]⟩
  · exact ⟨_, cap, rfl, Nat.le_trans h1 h2⟩

set_option maxHeartbeats 400000 in
theorem variable_ok {p : Nat} {M : Mgr} {L : Lay} (v : Int) {w : World} (R : Rep w p M L) :
    Calls Tryd.prog 77 #[ptr p, .int .i64 v] w fun e w' => e = .returned (.bool (decide (0 ≤ v ∧ v < M.n))) ∧ w = w' := by
  obtain ⟨F, raw, _⟩ := R.raw
  have c0 := raw.c0
  obtain ⟨a, c, hv, hl⟩ := ownsRow_len raw.order
  have hm := maxLen_val
  have hle : M.order.length ≤ 9223372036854775807 := by omega
  have hn : M.n = M.order.length := rfl
  rw [hv] at c0
  rw [hn]
  clear raw R hv hl hm hn
  generalize M.order.length = n at *
  by_cases h0 : 0 ≤ v
  · by_cases h1 : v < n
    · rw [show decide (0 ≤ v ∧ v < (n : Int)) = true from by simp [h0, h1]]
      go_enter Tryd.func77, Tryd.ntmps77
      go_wp2
      go_ret
      exact ⟨rfl, rfl⟩
    · rw [show decide (0 ≤ v ∧ v < (n : Int)) = false from by simp [h1]]
      go_enter Tryd.func77, Tryd.ntmps77
      go_wp2
      go_ret
      exact ⟨rfl, rfl⟩
  · rw [show decide (0 ≤ v ∧ v < (n : Int)) = false from by simp [h0]]
    have h0' : v < 0 := by omega
    go_enter Tryd.func77, Tryd.ntmps77
    go_wp2
    go_ret
    exact ⟨rfl, rfl⟩

theorem variable_as {p : Nat} {M : Mgr} {L : Lay} (v : Int) (b : Bool) {w : World} (R : Rep w p M L) (h : decide (0 ≤ v ∧ v < M.n) = b) :
    Calls Tryd.prog 77 #[ptr p, .int .i64 v] w fun e w' => e = .returned (.bool b) ∧ w = w' := by
  rw [← h]; exact variable_ok v R

/-- The cells of a node. -/
theorem Raw.node_cells {w : World} {p : Nat} {M : Mgr} {L : Lay} {F : Trip → Option Nat} (raw : Raw w p L M.order M.level M.nodes M.shown M.free M.uq F) (wf : M.WF) :
    ∃ bn cn, L.sn = .slice (some ⟨bn, 0, none⟩) M.nodes.length cn ∧ M.nodes.length ≤ cn ∧ cn ≤ maxLen ∧ ∀ f, f < M.nodes.length →
      w.cell? ⟨bn, f * 3, none⟩ = some (.int .i64 (M.nd f).1) ∧ w.cell? ⟨bn, f * 3 + 1, none⟩ = some (natV (M.nd f).2.1) ∧ w.cell? ⟨bn, f * 3 + 2, none⟩ = some (natV (M.nd f).2.2) := by
  have two := wf.two
  obtain ⟨bn, cap, hv, h1, h2, _, hcell, _⟩ := ownsRow_open raw.nodes (by omega)
  refine ⟨bn, cap, hv, h1, h2, fun f hf => ?_⟩
  have hg := nd_get hf
  exact ⟨hcell _ _ (ndCells_get _ f 0 _ hg (by omega)), hcell _ _ (ndCells_get _ f 1 _ hg (by omega)), hcell _ _ (ndCells_get _ f 2 _ hg (by omega))⟩

/-- The cells of a row of numbers. -/
theorem ownsRow_nats {w : World} {e : Nat} {v : Value} {l : List Nat} (h : w.ownsRow 0 e 1 v l.length (l.map natV)) (i : Nat) (hi : i < l.length) :
    ∃ g cap, v = .slice (some ⟨g, 0, none⟩) l.length cap ∧ l.length ≤ cap ∧ cap ≤ maxLen ∧ w.cell? ⟨g, i, none⟩ = some (natV (l.getD i 0)) := by
  obtain ⟨g, cap, hv, h1, h2, _, hcell, _⟩ := ownsRow_open h (by omega)
  exact ⟨g, cap, hv, h1, h2, hcell _ _ (by simp [hi])⟩

theorem Mgr.stored_lt {M : Mgr} (h : M.WF) {f : Nat} (hf : M.stored f) : f < M.nodes.length := by
  have := h.two
  rcases hf with hf | hf
  · omega
  · exact hf.1

set_option maxHeartbeats 400000 in
theorem depth_ok {p : Nat} {M : Mgr} {L : Lay} (f : Nat) {w : World} (R : Rep w p M L) (hf : M.stored f) :
    Calls Tryd.prog 84 #[ptr p, .int .i64 f] w fun e w' => e = .returned (.int .i64 (M.depth f)) ∧ ∃ k, w' = w.drewN k := by
  obtain ⟨F, raw, _⟩ := R.raw
  have hm := maxLen_val
  have hlt := M.stored_lt R.wf hf
  by_cases h2 : f < 2
  · have e : M.depth f = M.order.length := by unfold Mgr.depth; rw [if_pos h2]; rfl
    rw [e]
    have c0 := raw.c0
    obtain ⟨a, c, hv, hl⟩ := ownsRow_len raw.order
    rw [hv] at c0
    have hle : M.order.length ≤ 9223372036854775807 := by omega
    clear raw hv hl hm e R
    generalize M.order.length = n at *
    go_enter Tryd.func84, Tryd.ntmps84
    go_wp2_with (go_at_call 63; refine (constant_yes _ _ h2).mono ?_; rintro e w' ⟨rfl, rfl⟩)
    go_ret
    exact ⟨rfl, 0, rfl⟩
  · have e : M.depth f = M.lev (M.nd f).1.toNat := by unfold Mgr.depth; rw [if_neg h2]
    obtain ⟨v0, v1, _⟩ := Mgr.node_of R.wf hf (by omega)
    obtain ⟨bn, cn, hsn, hcn, hcm, hnd⟩ := raw.node_cells R.wf
    obtain ⟨hv, _⟩ := hnd f hlt
    obtain ⟨v, hvv⟩ := Int.eq_ofNat_of_zero_le v0
    have hvn : v < M.level.length := by rw [R.wf.len]; have : M.n = M.order.length := rfl; omega
    obtain ⟨bl, cl, hsl, hcl, hclm, hl⟩ := ownsRow_nats raw.level v hvn
    have c1 := raw.c1
    have c2 := raw.c2
    rw [hsl] at c1
    rw [hsn] at c2
    rw [e]
    rw [hvv] at hv ⊢
    have e2 : M.lev (Int.toNat (v : Int)) = M.level.getD v 0 := by simp [Mgr.lev]
    rw [e2]
    have hle1 : M.level.length ≤ 9223372036854775807 := by omega
    have hle2 : M.nodes.length ≤ 9223372036854775807 := by omega
    have h2' : 2 ≤ f := by omega
    have b1 : (f : Int) < M.nodes.length := by omega
    have b2 : (v : Int) < M.level.length := by omega
    unfold natV at hl
    clear raw R hm hsn hsl hnd e e2 hvv v0 v1 hcn hcm hcl hclm hf h2
    generalize M.level.getD v 0 = l at *
    generalize M.level.length = nl at *
    generalize M.nodes.length = nn at *
    go_enter Tryd.func84, Tryd.ntmps84
    go_wp2_with (go_at_call 63; refine (constant_no _ _ h2').mono ?_; rintro e w' ⟨rfl, rfl⟩)
    go_quiet (fail)
    go_wp2
    go_ret
    exact ⟨rfl, _, rfl⟩

/-- What 'split' returns. -/
def Mgr.sp (M : Mgr) (f v : Nat) : Nat × Nat := if (M.nd f).1 = (v : Int) then (M.nd f).2 else (f, f)

set_option maxHeartbeats 400000 in
theorem split_ok {p : Nat} {M : Mgr} {L : Lay} (f v : Nat) {w : World} (R : Rep w p M L) (hf : M.stored f) :
    Calls Tryd.prog 85 #[ptr p, .int .i64 f, .int .i64 v] w fun e w' => e = .returned (.tuple #[.int .i64 (M.sp f v).1, .int .i64 (M.sp f v).2]) ∧ Kp No w w' := by
  obtain ⟨F, raw, _⟩ := R.raw
  have hm := maxLen_val
  have hlt := M.stored_lt R.wf hf
  obtain ⟨bn, cn, hsn, hcn, hcm, hnd⟩ := raw.node_cells R.wf
  obtain ⟨n0, n1, n2⟩ := hnd f hlt
  have c2 := raw.c2
  rw [hsn] at c2
  have hle2 : M.nodes.length ≤ 9223372036854775807 := by omega
  have b1 : (f : Int) < M.nodes.length := by omega
  have hbn := World.block_lt_of_cell? _ _ n0
  unfold natV at n1 n2
  by_cases hv : (M.nd f).1 = (v : Int)
  · have e : M.sp f v = (M.nd f).2 := by unfold Mgr.sp; rw [if_pos hv]
    rw [e]
    rw [hv] at n0
    clear raw R hm hsn hnd e hcn hcm hf hv
    generalize (M.nd f).2 = x at *
    generalize M.nodes.length = nn at *
    go_enter Tryd.func85, Tryd.ntmps85
    go_wp2
    go_quiet (fail)
    go_wp2
    go_ret2
    exact ⟨rfl, (Kp.alloc _).trans_no (Kp.drewN _)⟩
  · have e : M.sp f v = (f, f) := by unfold Mgr.sp; rw [if_neg hv]
    rw [e]
    have hv' : ((M.nd f).1 == (v : Int)) = false := by simpa using hv
    clear raw R hm hsn hnd e hcn hcm hf hv
    generalize (M.nd f) = x at *
    generalize M.nodes.length = nn at *
    go_enter Tryd.func85, Tryd.ntmps85
    go_wp2
    go_ret2
    exact ⟨rfl, Kp.alloc _⟩

end Go.Proofs.YtgglkldoclejaaaDoor
