/-
  Walks: 'Ite', 'Not', 'And', 'Or', 'Xor', 'Var' of the package bdd.
-/
import Derived.Test.YtdgnbbmgcgfibaaGreatDoorRep
import Derived.Deep.QuietTactic
import Derived.BigQuiet
import Derived.Deep.RegionLaw
import Derived.Deep.DeepCutAuto
import Derived.StillTailTactics
import Derived.Deep.CutBlock
namespace Go.Proofs.YtdgnbbmgcgfibaaGreatDoor
open Go.RowKit

set_option maxHeartbeats 400000 in
theorem constant_any (n : Int) (w : World) :
    Calls Tryz.prog 54 #[.int .i64 n] w fun e w' => e = .returned (.bool (n == 0 || n == 1)) ∧ w = w' := by
  by_cases h0 : n = 0
  · subst h0
    go_enter Tryz.func54, Tryz.ntmps54
    go_wp2
    go_ret
    exact ⟨rfl, rfl⟩
  · have h1 : (n == 0) = false := by simpa using h0
    go_enter Tryz.func54, Tryz.ntmps54
    go_wp2
    go_ret
    simp [h1]

theorem constant_yes (n : Nat) (w : World) (h : n < 2) :
    Calls Tryz.prog 54 #[.int .i64 n] w fun e w' => e = .returned (.bool true) ∧ w = w' := by
  have h1 : ((n : Int) == 0 || (n : Int) == 1) = true := by simp; omega
  rw [← h1]; exact constant_any n w
theorem constant_no (n : Nat) (w : World) (h : 2 ≤ n) :
    Calls Tryz.prog 54 #[.int .i64 n] w fun e w' => e = .returned (.bool false) ∧ w = w' := by
  have h1 : ((n : Int) == 0 || (n : Int) == 1) = false := by simp; omega
  rw [← h1]; exact constant_any n w

/-- The Refs that are valid. -/
def Mgr.valid (M : Mgr) (f : Int) : Bool := decide (0 ≤ f) && M.vis f.toNat

theorem maxLen_val : maxLen = 9223372036854775807 := rfl

set_option maxHeartbeats 400000 in
theorem valid_ok {p : Nat} {M : Mgr} {L : Lay} (n : Int) {w : World} (R : Rep w p M L) :
    Calls Tryz.prog 34 #[ptr p, .int .i64 n] w fun e w' => e = .returned (.bool (M.valid n)) ∧ w = w' := by
  obtain ⟨F, raw, _⟩ := R.raw
  have c3 := raw.c3
  have two := R.wf.two
  have hsh := R.wf.sh
  obtain ⟨bs, cap, hv, h1, h2, _, hcell, _⟩ := ownsRow_open raw.shown (by omega)
  rw [hv] at c3
  have hm := maxLen_val
  have hle : M.shown.length ≤ 9223372036854775807 := by omega
  by_cases hn : n < 0
  · have e : M.valid n = false := by
      have h0 : ¬ 0 ≤ n := by omega
      simp [Mgr.valid, h0]
    rw [e]
    clear c3 hcell
    go_enter Tryz.func34, Tryz.ntmps34
    go_wp2
    go_ret
    exact ⟨rfl, rfl⟩
  · have hn' : 0 ≤ n := by omega
    by_cases hb : (M.shown.length : Int) ≤ n
    · have e : M.valid n = false := by
        have : M.shown[n.toNat]? = none := List.getElem?_eq_none (by omega)
        simp [Mgr.valid, Mgr.vis, this]
      rw [e]
      clear hcell hsh two hm raw e hv R h1
      generalize M.shown.length = ns at *
      go_enter Tryz.func34, Tryz.ntmps34
      go_wp2
      go_ret
      exact ⟨rfl, rfl⟩
    · have hb' : n < (M.shown.length : Int) := by omega
      have e : M.valid n = M.vis n.toNat := by simp [Mgr.valid, hn']
      have hget : (M.shown.map Value.bool)[n.toNat]? = some (.bool (M.vis n.toNat)) := by
        have : n.toNat < M.shown.length := by omega
        simp [Mgr.vis, this]
      have hc := hcell _ _ hget
      rw [e]
      clear hcell hsh two hm raw e hv R h1 hget hb
      generalize M.shown.length = ns at *
      generalize M.vis n.toNat = b at *
      go_enter Tryz.func34, Tryz.ntmps34
      go_wp2
      go_ret
      exact ⟨rfl, rfl⟩

theorem valid_as {p : Nat} {M : Mgr} {L : Lay} (n : Int) (b : Bool) {w : World} (R : Rep w p M L) (h : M.valid n = b) :
    Calls Tryz.prog 34 #[ptr p, .int .i64 n] w fun e w' => e = .returned (.bool b) ∧ w = w' := by
  rw [← h]; exact valid_ok n R

/-- The length of an owned row of one cell each, or nil. -/
theorem ownsRow_len {w : World} {e size n : Nat} {v : Value} {xs : List Value} (h : w.ownsRow 0 e size v n xs) : ∃ a c, v = .slice a n c ∧ n ≤ maxLen := by
  rcases h.2 with ⟨rfl, rfl⟩ | ⟨g, cap, cur, rfl, _, _, h1, h2, _⟩
  · exact ⟨none, 0, rfl, by simp [maxLen_val]⟩
  · exact ⟨_, cap, rfl, Nat.le_trans h1 h2⟩

set_option maxHeartbeats 400000 in
theorem variable_ok {p : Nat} {M : Mgr} {L : Lay} (v : Int) {w : World} (R : Rep w p M L) :
    Calls Tryz.prog 39 #[ptr p, .int .i64 v] w fun e w' => e = .returned (.bool (decide (0 ≤ v ∧ v < M.n))) ∧ w = w' := by
  obtain ⟨F, raw, _⟩ := R.raw
  have c0 := raw.c0
  obtain ⟨a, c, hv, hl⟩ := ownsRow_len raw.order
  have hm := maxLen_val
  have hle : M.order.length ≤ 9223372036854775807 := by omega
  have hn : M.n = M.order.length := rfl
  rw [hv] at c0
  rw [hn]
  clear raw R hv hl hm hn
  generalize M.order.length = n at *
  by_cases h0 : 0 ≤ v
  · by_cases h1 : v < n
    · rw [show decide (0 ≤ v ∧ v < (n : Int)) = true from by simp [h0, h1]]
      go_enter Tryz.func39, Tryz.ntmps39
      go_wp2
      go_ret
      exact ⟨rfl, rfl⟩
    · rw [show decide (0 ≤ v ∧ v < (n : Int)) = false from by simp [h1]]
      go_enter Tryz.func39, Tryz.ntmps39
      go_wp2
      go_ret
      exact ⟨rfl, rfl⟩
  · rw [show decide (0 ≤ v ∧ v < (n : Int)) = false from by simp [h0]]
    have h0' : v < 0 := by omega
    go_enter Tryz.func39, Tryz.ntmps39
    go_wp2
    go_ret
    exact ⟨rfl, rfl⟩

theorem variable_as {p : Nat} {M : Mgr} {L : Lay} (v : Int) (b : Bool) {w : World} (R : Rep w p M L) (h : decide (0 ≤ v ∧ v < M.n) = b) :
    Calls Tryz.prog 39 #[ptr p, .int .i64 v] w fun e w' => e = .returned (.bool b) ∧ w = w' := by
  rw [← h]; exact variable_ok v R

set_option maxHeartbeats 400000 in
theorem vars_ok {p : Nat} {M : Mgr} {L : Lay} {w : World} (R : Rep w p M L) :
    Calls Tryz.prog 105 #[ptr p] w fun e w' => e = .returned (natV M.n) ∧ w = w' := by
  obtain ⟨F, raw, _⟩ := R.raw
  have c0 := raw.c0
  obtain ⟨a, c, hv, hl⟩ := ownsRow_len raw.order
  have hm := maxLen_val
  have hle : M.order.length ≤ 9223372036854775807 := by omega
  have hn : M.n = M.order.length := rfl
  rw [hv] at c0
  rw [hn]
  clear raw R hv hl hm hn
  generalize M.order.length = n at *
  go_enter Tryz.func105, Tryz.ntmps105
  go_wp2
  go_ret
  exact ⟨rfl, rfl⟩

/-- The cells of a node. -/
theorem Raw.node_cells {w : World} {p : Nat} {M : Mgr} {L : Lay} {F : Trip → Option Nat} (raw : Raw w p L M.order M.level M.nodes M.shown M.free M.uq F) (wf : M.WF) :
    ∃ bn cn, L.sn = .slice (some ⟨bn, 0, none⟩) M.nodes.length cn ∧ M.nodes.length ≤ cn ∧ cn ≤ maxLen ∧ ∀ f, f < M.nodes.length →
      w.cell? ⟨bn, f * 3, none⟩ = some (.int .i64 (M.nd f).1) ∧ w.cell? ⟨bn, f * 3 + 1, none⟩ = some (natV (M.nd f).2.1) ∧ w.cell? ⟨bn, f * 3 + 2, none⟩ = some (natV (M.nd f).2.2) := by
  have two := wf.two
  obtain ⟨bn, cap, hv, h1, h2, _, hcell, _⟩ := ownsRow_open raw.nodes (by omega)
  refine ⟨bn, cap, hv, h1, h2, fun f hf => ?_⟩
  have hg := nd_get hf
  exact ⟨hcell _ _ (ndCells_get _ f 0 _ hg (by omega)), hcell _ _ (ndCells_get _ f 1 _ hg (by omega)), hcell _ _ (ndCells_get _ f 2 _ hg (by omega))⟩

/-- The cells of a row of numbers. -/
theorem ownsRow_nats {w : World} {e : Nat} {v : Value} {l : List Nat} (h : w.ownsRow 0 e 1 v l.length (l.map natV)) (i : Nat) (hi : i < l.length) :
    ∃ g cap, v = .slice (some ⟨g, 0, none⟩) l.length cap ∧ l.length ≤ cap ∧ cap ≤ maxLen ∧ w.cell? ⟨g, i, none⟩ = some (natV (l.getD i 0)) := by
  obtain ⟨g, cap, hv, h1, h2, _, hcell, _⟩ := ownsRow_open h (by omega)
  exact ⟨g, cap, hv, h1, h2, hcell _ _ (by simp [hi])⟩

theorem Mgr.stored_lt {M : Mgr} (h : M.WF) {f : Nat} (hf : M.stored f) : f < M.nodes.length := by
  have := h.two
  rcases hf with hf | hf
  · omega
  · exact hf.1

set_option maxHeartbeats 400000 in
theorem depth_ok {p : Nat} {M : Mgr} {L : Lay} (f : Nat) {w : World} (R : Rep w p M L) (hf : M.stored f) :
    Calls Tryz.prog 96 #[ptr p, .int .i64 f] w fun e w' => e = .returned (.int .i64 (M.depth f)) ∧ ∃ k, w' = w.drewN k := by
  obtain ⟨F, raw, _⟩ := R.raw
  have hm := maxLen_val
  have hlt := M.stored_lt R.wf hf
  by_cases h2 : f < 2
  · have e : M.depth f = M.order.length := by unfold Mgr.depth; rw [if_pos h2]; rfl
    rw [e]
    have c0 := raw.c0
    obtain ⟨a, c, hv, hl⟩ := ownsRow_len raw.order
    rw [hv] at c0
    have hle : M.order.length ≤ 9223372036854775807 := by omega
    clear raw hv hl hm e R
    generalize M.order.length = n at *
    go_enter Tryz.func96, Tryz.ntmps96
    go_wp2_with (go_at_call 54; refine (constant_yes _ _ h2).mono ?_; rintro e w' ⟨rfl, rfl⟩)
    go_ret
    exact ⟨rfl, 0, rfl⟩
  · have e : M.depth f = M.lev (M.nd f).1.toNat := by unfold Mgr.depth; rw [if_neg h2]
    obtain ⟨v0, v1, _⟩ := Mgr.node_of R.wf hf (by omega)
    obtain ⟨bn, cn, hsn, hcn, hcm, hnd⟩ := raw.node_cells R.wf
    obtain ⟨hv, _⟩ := hnd f hlt
    obtain ⟨v, hvv⟩ := Int.eq_ofNat_of_zero_le v0
    have hvn : v < M.level.length := by rw [R.wf.len]; have : M.n = M.order.length := rfl; omega
    obtain ⟨bl, cl, hsl, hcl, hclm, hl⟩ := ownsRow_nats raw.level v hvn
    have c1 := raw.c1
    have c2 := raw.c2
    rw [hsl] at c1
    rw [hsn] at c2
    rw [e]
    rw [hvv] at hv ⊢
    have e2 : M.lev (Int.toNat (v : Int)) = M.level.getD v 0 := by simp [Mgr.lev]
    rw [e2]
    have hle1 : M.level.length ≤ 9223372036854775807 := by omega
    have hle2 : M.nodes.length ≤ 9223372036854775807 := by omega
    have h2' : 2 ≤ f := by omega
    have b1 : (f : Int) < M.nodes.length := by omega
    have b2 : (v : Int) < M.level.length := by omega
    unfold natV at hl
    clear raw R hm hsn hsl hnd e e2 hvv v0 v1 hcn hcm hcl hclm hf h2
    generalize M.level.getD v 0 = l at *
    generalize M.level.length = nl at *
    generalize M.nodes.length = nn at *
    go_enter Tryz.func96, Tryz.ntmps96
    go_wp2_with (go_at_call 54; refine (constant_no _ _ h2').mono ?_; rintro e w' ⟨rfl, rfl⟩)
    go_quiet (fail)
    go_wp2
    go_ret
    exact ⟨rfl, _, rfl⟩

/-- What 'split' returns. -/
def Mgr.sp (M : Mgr) (f v : Nat) : Nat × Nat := if (M.nd f).1 = (v : Int) then (M.nd f).2 else (f, f)

set_option maxHeartbeats 400000 in
theorem split_ok {p : Nat} {M : Mgr} {L : Lay} (f v : Nat) {w : World} (R : Rep w p M L) (hf : M.stored f) :
    Calls Tryz.prog 97 #[ptr p, .int .i64 f, .int .i64 v] w fun e w' => e = .returned (.tuple #[.int .i64 (M.sp f v).1, .int .i64 (M.sp f v).2]) ∧ Kp No w w' := by
  obtain ⟨F, raw, _⟩ := R.raw
  have hm := maxLen_val
  have hlt := M.stored_lt R.wf hf
  obtain ⟨bn, cn, hsn, hcn, hcm, hnd⟩ := raw.node_cells R.wf
  obtain ⟨n0, n1, n2⟩ := hnd f hlt
  have c2 := raw.c2
  rw [hsn] at c2
  have hle2 : M.nodes.length ≤ 9223372036854775807 := by omega
  have b1 : (f : Int) < M.nodes.length := by omega
  have hbn := World.block_lt_of_cell? _ _ n0
  unfold natV at n1 n2
  by_cases hv : (M.nd f).1 = (v : Int)
  · have e : M.sp f v = (M.nd f).2 := by unfold Mgr.sp; rw [if_pos hv]
    rw [e]
    rw [hv] at n0
    clear raw R hm hsn hnd e hcn hcm hf hv
    generalize (M.nd f).2 = x at *
    generalize M.nodes.length = nn at *
    go_enter Tryz.func97, Tryz.ntmps97
    go_wp2
    go_quiet (fail)
    go_wp2
    go_ret2
    exact ⟨rfl, (Kp.alloc _).trans_no (Kp.drewN _)⟩
  · have e : M.sp f v = (f, f) := by unfold Mgr.sp; rw [if_neg hv]
    rw [e]
    have hv' : ((M.nd f).1 == (v : Int)) = false := by simpa using hv
    clear raw R hm hsn hnd e hcn hcm hf hv
    generalize (M.nd f) = x at *
    generalize M.nodes.length = nn at *
    go_enter Tryz.func97, Tryz.ntmps97
    go_wp2
    go_ret2
    exact ⟨rfl, Kp.alloc _⟩

end Go.Proofs.YtdgnbbmgcgfibaaGreatDoor

namespace Go.Proofs.YtdgnbbmgcgfibaaGreatDoor
open Go.RowKit

def Mgr.show (M : Mgr) (f : Nat) : Mgr := { M with shown := M.shown.set f true }

theorem Mgr.vis_show (M : Mgr) (f g : Nat) (h : f < M.shown.length) : (M.show f).vis g = (if g = f then true else M.vis g) := by
  by_cases e : g = f
  · subst e; simp [Mgr.show, Mgr.vis, h]
  · have e' : ¬ f = g := fun x => e x.symm
    simp [Mgr.show, Mgr.vis, e, e']

theorem Mgr.show_wf {M : Mgr} (h : M.WF) {f : Nat} (hf : M.stored f) : (M.show f).WF := by
  have hlt : f < M.shown.length := by rw [h.sh]; exact M.stored_lt h hf
  refine ⟨h.len, h.ol, h.lo_, h.two, h.nd0, h.nd1, ?_, ?_, ?_, ?_, h.node, h.inj, h.fr, h.fnd⟩
  · show (M.shown.set f true).length = _; rw [List.length_set]; exact h.sh
  · rw [vis_show _ _ _ hlt]; split
    · rfl
    · exact h.sh0
  · rw [vis_show _ _ _ hlt]; split
    · rfl
    · exact h.sh1
  · intro g hg
    rw [vis_show _ _ _ hlt] at hg
    split at hg
    · rename_i e; subst e; exact hf
    · exact h.shst g hg

theorem Mgr.show_semF (M : Mgr) (f : Nat) (a : Nat → Bool) : ∀ k g, (M.show f).semF k g a = M.semF k g a
  | 0, _ => rfl
  | k + 1, g => by
    unfold Mgr.semF
    rw [Mgr.show_semF M f a k, Mgr.show_semF M f a k]
    rfl
theorem Mgr.show_sem (M : Mgr) (f g : Nat) (a : Nat → Bool) : (M.show f).sem g a = M.sem g a := M.show_semF f a _ g

theorem Mgr.show_sound {M : Mgr} {F : Trip → Option Nat} (h : M.Sound F) (f : Nat) : (M.show f).Sound F := by
  intro x r hr
  obtain ⟨a, b, c, hx, h1, h2, h3, h4, hs⟩ := h x r hr
  exact ⟨a, b, c, hx, h1, h2, h3, h4, fun s => by simp only [Mgr.show_sem]; exact hs s⟩

theorem take_set_row {cur : Array Value} {k n i : Nat} {xs : List Value} (h : cur.toList.take n = xs) (v : Value) (hk : k = i) : (cur.setIfInBounds k v).toList.take n = xs.set i v := by
  subst hk
  rw [Array.toList_setIfInBounds, List.take_set, h]

/-- A store into an owned row. -/
theorem ownsRow_store {w : World} {e size n : Nat} {g cap : Nat} {xs : List Value} (h : w.ownsRow 0 e size (.slice (some ⟨g, 0, none⟩) n cap) n xs) (i : Nat) (v : Value) :
    (w.setCell ⟨g, i, none⟩ v).ownsRow 0 e size (.slice (some ⟨g, 0, none⟩) n cap) n (xs.set i v) := by
  refine ⟨by rw [List.length_set]; exact h.1, ?_⟩
  rcases h.2 with ⟨hx, _⟩ | ⟨g', cap', cur, hv, hb, hg, h1, h2, h3, h4⟩
  · cases hx
  · cases hv
    exact .inr ⟨g, cap, _, rfl, hb, setCell_heap hg v, h1, h2, by simpa using h3, take_set_row h4 v rfl⟩

set_option maxHeartbeats 400000 in
theorem show_ok {p : Nat} {M : Mgr} {L : Lay} (f : Nat) {w : World} (R : Rep w p M L) (hf : M.stored f) :
    Calls Tryz.prog 40 #[ptr p, .int .i64 f] w (Ret p L w (M.show f) (.int .i64 f)) := by
  obtain ⟨F, raw, snd⟩ := R.raw
  have hm := maxLen_val
  have hlt := M.stored_lt R.wf hf
  have hsh := R.wf.sh
  obtain ⟨bs, cap, hv, h1, h2, _, hcell, hfz⟩ := ownsRow_open raw.shown (by omega)
  have c3 := raw.c3
  rw [hv] at c3
  have hc : w.cell? ⟨bs, f, none⟩ = some (.bool (M.vis f)) := hcell _ _ (by simp [Mgr.vis, hsh ▸ hlt])
  have hz := hfz f
  have own := raw.shown
  rw [hv] at own
  have fin : Ret p L w (M.show f) (.int .i64 f) (.returned (.int .i64 f)) (w.setCell ⟨bs, f, none⟩ (.bool true)) := by
    have hk : Kp (fun k => L.ss.ownBlock = some k) w (w.setCell ⟨bs, f, none⟩ (.bool true)) := (Kp.setCell _ _).mono (fun k _ e => by rw [hv, e]; rfl)
    refine ⟨L, rfl, ⟨⟨F, raw.kpShown hk _ ?_, Mgr.show_sound snd f⟩, Mgr.show_wf R.wf hf⟩, hk.mono (fun k _ e => by simp [Lay.at, e]), fun k hk => .inl hk⟩
    have := ownsRow_store own f (.bool true)
    rw [hv]
    simpa [Mgr.show, List.map_set] using this
  have FIN := Lib.hid fin
  have hle : M.shown.length ≤ 9223372036854775807 := by omega
  have b1 : (f : Int) < M.shown.length := by omega
  clear raw R hm hv hcell hfz fin own snd hsh hlt hf h1 h2
  generalize M.shown.length = ns at *
  generalize M.vis f = b at *
  go_enter Tryz.func40, Tryz.ntmps40
  go_wp2
  go_ret
  exact FIN.out

theorem info_node : (Tryz.prog.info? 103).map (fun i => (i.zero, i.size, i.bytes)) = some (some (.agg #[.int .i64 0, .int .i64 0, .int .i64 0]), 3, 24) := by kernel_rfl
theorem info_bool : (Tryz.prog.info? 4).map (fun i => (i.zero, i.size, i.bytes)) = some (some (.bool false), 1, 1) := by kernel_rfl

set_option maxHeartbeats 400000 in
theorem node_same (p : Nat) (v lo : Int) (w : World) :
    Calls Tryz.prog 41 #[ptr p, .int .i64 v, .int .i64 lo, .int .i64 lo] w fun e w' => e = .returned (.int .i64 lo) ∧ w = w' := by
  go_enter Tryz.func41, Tryz.ntmps41
  go_wp2
  go_ret
  exact ⟨rfl, rfl⟩

abbrev box3 (a b c : Int) : Obj := .cells #[.int .i64 a, .int .i64 b, .int .i64 c] 103

set_option maxHeartbeats 400000 in
theorem node_found {p : Nat} {L : Lay} {order level : List Nat} {nodes : List Nd} {shown : List Bool} {free : List Nat} {U F : Trip → Option Nat} (v lo hi : Int) (r : Nat) {w : World}
    (raw : Raw w p L order level nodes shown free U F) (hne : lo ≠ hi) (hu : U (v, lo, hi) = some r) :
    Calls Tryz.prog 41 #[ptr p, .int .i64 v, .int .i64 lo, .int .i64 hi] w fun e w' => e = .returned (.int .i64 r) ∧ Kp No w w' := by
  have hne' : (lo == hi) = false := by simpa using hne
  have c5 := raw.c5
  have plt := raw.plt
  have hl2 : ∀ n, (Instr.lookup 106 (.map (some L.bu)) (.agg #[.int .i64 v, .int .i64 lo, .int .i64 hi]) true).run Tryz.prog ((w.alloc (box3 v lo hi)).drewN n) = .ok (.tuple #[.int .i64 r, .bool true]) ((w.alloc (box3 v lo hi)).drewN n) := fun n => by
    have := (raw.uniq.kp (Kp.trans_no (Kp.alloc (box3 v lo hi)) (Kp.drewN n)) (fun x => x)).lookup keyNode Tryz.underlying106 zeroRef (v, lo, hi) true
    rw [hu] at this
    exact this
  clear raw hu
  generalize L.bu = bu at *
  go_enter Tryz.func41, Tryz.ntmps41
  go_wp2
  go_quiet (fail)
  go_wp2
  go_ret
  exact ⟨rfl, (Kp.alloc _).trans_no (Kp.drewN _)⟩

end Go.Proofs.YtdgnbbmgcgfibaaGreatDoor

namespace Go.Proofs.YtdgnbbmgcgfibaaGreatDoor
open Go.RowKit

/-- What 'node' does if the node is not there, and none is free. -/
def NewPost (p : Nat) (L : Lay) (order level : List Nat) (nodes : List Nd) (shown : List Bool) (U F : Trip → Option Nat) (v lo hi : Nat) (w : World) (e : Ending) (w' : World) : Prop :=
  ∃ L', e = .returned (.int .i64 nodes.length) ∧ Raw w' p L' order level (nodes ++ [((v : Int), lo, hi)]) (shown ++ [false]) [] (fun x => if x = ((v : Int), (lo : Int), (hi : Int)) then some nodes.length else U x) F ∧
    Kp (L.at p) w w' ∧ Fresh (L.at p) (L'.at p) w

theorem grown_no {w w1 w' : World} {r : Option Nat} (h : Kp No w w1) (g : w1.grownBy w' r) : Kp (fun k => r = some k) w w' := h.no_trans (Kp.grown g)

/-- The store behind the append to 'nodes'. -/
def StB (p : Nat) (L : Lay) (order level : List Nat) (nodes : List Nd) (shown : List Bool) (U F : Trip → Option Nat) (v lo hi : Nat) (w : World) (B : Nat) (x : World) : Prop :=
  ∃ sn, Raw x p { L with sn := sn } order level (nodes ++ [((v : Int), lo, hi)]) shown [] U F ∧ Kp (L.at p) w x ∧ Fresh (L.at p) (Lay.at { L with sn := sn } p) w ∧
    x.heap[B]? = some (.cells #[.int .i64 v, .int .i64 lo, .int .i64 hi] 103 (0, 0))

theorem StB.mk {p : Nat} {L : Lay} {order level : List Nat} {nodes : List Nd} {shown : List Bool} {U F : Trip → Option Nat} {v lo hi : Nat} {w A A' w1 : World} {B g cap bn cn n : Nat}
    (raw : Raw A p L order level nodes shown [] U F) (hsn : L.sn = .slice (some ⟨bn, 0, none⟩) n cn) (kA : Kp No w A) (bA : A.heap[B]? = some (.cells #[.int .i64 v, .int .i64 lo, .int .i64 hi] 103 (0, 0)))
    (hB : w.heap.size = B) (kA' : Kp No A A') (hown : w1.ownsRow 0 103 3 (.slice (some ⟨g, 0, none⟩) (nodes.length + 1) cap) (nodes.length + 1) (nodes.flatMap ndCells ++ [.int .i64 v, .int .i64 lo, .int .i64 hi]))
    (hgrow : A'.grownBy w1 (Value.slice (some ⟨bn, 0, none⟩) n cn).ownBlock) (hat : (Value.slice (some ⟨bn, 0, none⟩) n cn).ownBlock = some g ∨ g = A.heap.size + 1) (hbn : bn < B) :
    StB p L order level nodes shown U F v lo hi w B (w1.setCell ⟨p, 2, none⟩ (.slice (some ⟨g, 0, none⟩) (nodes.length + 1) cap)) := by
  have kg : Kp (fun k => L.sn.ownBlock = some k) A w1 := by rw [hsn]; exact grown_no kA' hgrow
  have hp : p < w.heap.size ∨ w.heap.size ≤ p := by omega
  have k1 : Kp (L.at p) A w1 := kg.mono (fun k _ e => by simp [Lay.at, e])
  have hB' : B < A.heap.size := heap_lt bA
  refine ⟨_, raw.pushNodes kg (nodes ++ [((v : Int), lo, hi)]) ?_, ?_, ?_, ?_⟩
  · simpa [List.flatMap_append, ndCells] using hown
  · exact (kA.no_trans k1).trans (A' := L.at p) (fun k h => .inl h) ((Kp.setCell _ _).mono (fun k _ e => .inl e))
  · intro k hk
    rcases hk with h | h | h | h | h | h | h | h
    · exact .inl (.inl h)
    · exact .inl (.inr (.inl h))
    · exact .inl (.inr (.inr (.inl h)))
    · exact .inl (by simp [Lay.at] at h ⊢; simp [h])
    · exact .inl (by simp [Lay.at] at h ⊢; simp [h])
    · have hg : g = k := by simpa [Value.ownBlock] using h
      rcases hat with hat | hat
      · left
        have : L.sn.ownBlock = some k := by rw [hsn, ← hg]; exact hat
        simp [Lay.at, this]
      · right
        have := kA.size
        omega
    · exact .inl (by simp [Lay.at] at h ⊢; simp [h])
    · exact .inl (by simp [Lay.at] at h ⊢; simp [h])
  · have hpB : p ≠ B := fun e => by
      have := raw.mgr
      rw [e, bA] at this
      simp at this
    have h1 : w1.heap[B]? = A.heap[B]? := kg.block B hB' (fun e => by rw [hsn] at e; simp [Value.ownBlock] at e; omega)
    rw [Below.heap_setCell _ _ _ _ (Ne.symm hpB), h1]; exact bA

theorem StC.mk {p : Nat} {L : Lay} {order level : List Nat} {nodes : List Nd} {shown : List Bool} {U F : Trip → Option Nat} {v lo hi : Nat} {w A A' w1 : World} {B g cap bs cs n : Nat} {sn : Value}
    (raw : Raw A p { L with sn := sn } order level nodes shown [] U F) (hss : L.ss = .slice (some ⟨bs, 0, none⟩) n cs) (kA : Kp (L.at p) w A) (fr : Fresh (L.at p) (Lay.at { L with sn := sn } p) w) (bA : A.heap[B]? = some (.cells #[.int .i64 v, .int .i64 lo, .int .i64 hi] 103 (0, 0)))
    (hB : w.heap.size = B) (kA' : Kp No A A') (hown : w1.ownsRow 0 4 1 (.slice (some ⟨g, 0, none⟩) (shown.length + 1) cap) (shown.length + 1) (shown.map .bool ++ [.bool false]))
    (hgrow : A'.grownBy w1 (Value.slice (some ⟨bs, 0, none⟩) n cs).ownBlock) (hat : (Value.slice (some ⟨bs, 0, none⟩) n cs).ownBlock = some g ∨ g = A.heap.size + 1) (hbs : bs < B) :
    Raw (w1.setCell ⟨p, 3, none⟩ (.slice (some ⟨g, 0, none⟩) (shown.length + 1) cap)) p { L with sn := sn, ss := .slice (some ⟨g, 0, none⟩) (shown.length + 1) cap } order level nodes (shown ++ [false]) [] U F ∧
      Kp (L.at p) w (w1.setCell ⟨p, 3, none⟩ (.slice (some ⟨g, 0, none⟩) (shown.length + 1) cap)) ∧ Fresh (L.at p) (Lay.at { L with sn := sn, ss := .slice (some ⟨g, 0, none⟩) (shown.length + 1) cap } p) w ∧
      (w1.setCell ⟨p, 3, none⟩ (.slice (some ⟨g, 0, none⟩) (shown.length + 1) cap)).heap[B]? = some (.cells #[.int .i64 v, .int .i64 lo, .int .i64 hi] 103 (0, 0)) := by
  have kg : Kp (fun k => (Lay.ss { L with sn := sn }).ownBlock = some k) A w1 := by
    show Kp (fun k => L.ss.ownBlock = some k) A w1
    rw [hss]; exact grown_no kA' hgrow
  have k1 : Kp (L.at p) A w1 := kg.mono (fun k _ e => by simp at e; simp [Lay.at, e])
  have hB' : B < A.heap.size := heap_lt bA
  refine ⟨raw.pushShown kg (shown ++ [false]) ?_, ?_, ?_, ?_⟩
  · simpa using hown
  · exact (kA.trans (A' := L.at p) (fun k h => .inl h) k1).trans (A' := L.at p) (fun k h => .inl h) ((Kp.setCell _ _).mono (fun k _ e => .inl e))
  · intro k hk
    rcases hk with h | h | h | h | h | h | h | h
    · exact .inl (.inl h)
    · exact .inl (.inr (.inl h))
    · exact .inl (.inr (.inr (.inl h)))
    · exact fr k (by simp [Lay.at] at h ⊢; simp [h])
    · exact fr k (by simp [Lay.at] at h ⊢; simp [h])
    · exact fr k (by simp [Lay.at] at h ⊢; simp [h])
    · have hg : g = k := by simpa [Value.ownBlock] using h
      rcases hat with hat | hat
      · left
        have : L.ss.ownBlock = some k := by rw [hss, ← hg]; exact hat
        simp [Lay.at, this]
      · right
        have := kA.size
        omega
    · exact fr k (by simp [Lay.at] at h ⊢; simp [h])
  · have hpB : p ≠ B := fun e => by
      have := raw.mgr
      rw [e, bA] at this
      simp at this
    have h1 : w1.heap[B]? = A.heap[B]? := kg.block B hB' (fun e => by simp [hss, Value.ownBlock] at e; omega)
    rw [Below.heap_setCell _ _ _ _ (Ne.symm hpB), h1]; exact bA

set_option maxRecDepth 100000 in
set_option maxHeartbeats 1000000 in
theorem node_new {p : Nat} {L : Lay} {order level : List Nat} {nodes : List Nd} {shown : List Bool} {U F : Trip → Option Nat} (v lo hi : Nat) {w : World}
    (raw : Raw w p L order level nodes shown [] U F) (hne : lo ≠ hi) (hu : U (v, lo, hi) = none) (hn0 : 0 < nodes.length) (hs0 : 0 < shown.length) (hnb : nodes.length ≤ big) (hsb : shown.length ≤ big) :
    Calls Tryz.prog 41 #[ptr p, .int .i64 v, .int .i64 lo, .int .i64 hi] w (NewPost p L order level nodes shown U F v lo hi w) := by
  have hne' : ((lo : Int) == (hi : Int)) = false := by simp; omega
  have c5 := raw.c5
  have c2 := raw.c2
  have c4 := raw.c4
  have plt := raw.plt
  unfold big at hnb hsb
  obtain ⟨bn, cn, hsn, _⟩ := ownsRow_open raw.nodes hn0
  obtain ⟨bs, cs, hss, _⟩ := ownsRow_open raw.shown hs0
  obtain ⟨af, cf, hsf, _⟩ := ownsRow_len raw.free
  have hbs : bs < w.heap.size := raw.lt bs (by rw [Lay.at, hss]; simp [Value.ownBlock])
  have hbn : bn < w.heap.size := raw.lt bn (by rw [Lay.at, hsn]; simp [Value.ownBlock])
  have hpn : p ≠ bn := fun e => raw.row_mgr raw.nodes (by decide) (by rw [hsn, e]; rfl)
  have hps : p ≠ bs := fun e => raw.row_mgr raw.shown (by decide) (by rw [hss, e]; rfl)
  rw [hsn] at c2
  rw [hsf] at c4
  simp only [List.length_nil] at c4
  have hl2 : ∀ n, (Instr.lookup 106 (.map (some L.bu)) (.agg #[.int .i64 v, .int .i64 lo, .int .i64 hi]) true).run Tryz.prog ((w.alloc (box3 v lo hi)).drewN n) = .ok (.tuple #[.int .i64 0, .bool false]) ((w.alloc (box3 v lo hi)).drewN n) := fun n => by
    have := (raw.uniq.kp (Kp.trans_no (Kp.alloc (box3 v lo hi)) (Kp.drewN n)) (fun x => x)).lookup keyNode Tryz.underlying106 zeroRef ((v : Int), (lo : Int), (hi : Int)) true
    rw [hu] at this
    exact this
  have RAW := Lib.hid raw
  have HSN := Lib.hid hsn
  have HSS := Lib.hid hss
  clear raw hu hsn hsf hss
  obtain ⟨i0, hi0, hz0, hz1, hz2⟩ := info_parts info_node
  obtain ⟨j0, hj0, hy0, hy1, hy2⟩ := info_parts info_bool
  have NN : nodes.length ≤ 9223372036854775807 := by omega
  go_enter Tryz.func41, Tryz.ntmps41
  go_wp2
  go_quiet (fail)
  go_wp2
  -- the box
  have kpA : Kp No w ((w.alloc (Obj.cells #[.int .i64 v, .int .i64 lo, .int .i64 hi] 103)).drewN nq) := (Kp.alloc _).trans_no (Kp.drewN _)
  have boxA : ((w.alloc (Obj.cells #[.int .i64 v, .int .i64 lo, .int .i64 hi] 103)).drewN nq).heap[w.heap.size]? = some (Obj.cells #[.int .i64 v, .int .i64 lo, .int .i64 hi] 103 (0, 0)) := heap_alloc_new _ _
  have szA : w.heap.size < ((w.alloc (Obj.cells #[.int .i64 v, .int .i64 lo, .int .i64 hi] 103)).drewN nq).heap.size := heap_lt boxA
  clear hl2 c2 c4 c5
  generalize ((w.alloc (Obj.cells #[.int .i64 v, .int .i64 lo, .int .i64 hi] 103)).drewN nq) = A at *
  have rawA := RAW.out.no kpA
  have a2 := rawA.c2
  have g2 := rawA.fz 2
  have pltA := rawA.plt
  have oA := rawA.nodes
  rw [HSN.out] at a2 oA
  have e0 : A.cell? ⟨w.heap.size, 0, none⟩ = some (.int .i64 v) := by simp [World.cell?, boxA]
  have e1 : A.cell? ⟨w.heap.size, 1, none⟩ = some (.int .i64 lo) := by simp [World.cell?, boxA]
  have e2 : A.cell? ⟨w.heap.size, 2, none⟩ = some (.int .i64 hi) := by simp [World.cell?, boxA]
  have RA := Lib.hid rawA
  have BA := Lib.hid boxA
  have KA := Lib.hid kpA
  clear rawA boxA kpA
  have RAW' := RAW
  clear RAW
  generalize hB : w.heap.size = B at *
  have HB := Lib.hid hB
  clear hB
  have HBN := Lib.hid hbn
  go_cut [] (fun x => StB p L order level nodes shown U F v lo hi w B x)
  case first =>
    go_region_law ((refine step_append_lies _ (by rfl) _ _ _ (by rfl) 0 103 i0 _ 3 24 Tryz.underlying104 hi0 hz0 hz1 hz2 rfl (by omega) _ nodes.length (nodes.flatMap ndCells) (by rfl) ((oA.drew).alloc _) ⟨A.heap.size, 0, none⟩ 1 1 [.int .i64 v, .int .i64 lo, .int .i64 hi] (by rfl) rfl (World.news_of_block (heap_alloc_new _ _)) (by simp [Value.oneCell']) (by omega) (by unfold maxLen; omega) (by omega) (by omega) (A.heap.size + 1) (by simp) ?_; intro g cap w1 hown hgrow hat hlt; have q2 : w1.cell? ⟨p, 2, none⟩ = some (.slice (some ⟨bn, 0, none⟩) nodes.length cn) := (hgrow.cell_far ⟨p, 2, none⟩ (by simp; omega) (fun e => hpn (Option.some.inj e))).trans ((World.cell?_alloc_lt _ _ _ pltA).trans a2); have q3 : w1.frozen? ⟨p, 2, none⟩ = false := (hgrow.frozen_far ⟨p, 2, none⟩ (by simp; omega) (fun e => hpn (Option.some.inj e))).trans ((World.frozen?_alloc_old _ _ _ (by simp; omega)).trans g2)))
    all_goals
      go_wp2_with fail
      go_meet
      case rel => exact StB.mk RA.out HSN.out KA.out BA.out HB.out (by first | exact (Kp.alloc _).trans_no Kp.drew | exact Kp.drew.no_trans (Kp.alloc _)) hown hgrow hat hbn
  case rest =>
    obtain ⟨sn, rawB, kpB, frB, boxB⟩ := hcut
    have b3 := rawB.c3
    have f3 := rawB.fz 3
    have pB := rawB.plt
    have oB := rawB.shown
    simp only [HSS.out] at b3 oB
    have RB := Lib.hid rawB
    have KB := Lib.hid kpB
    have FB := Lib.hid frB
    have BB := Lib.hid boxB
    clear rawB kpB frB boxB
    go_wp2_with (at_builtin; refine wpList_append_lies _ rfl _ _ _ rfl 0 4 j0 _ 1 1 Tryz.underlying72 hj0 hy0 hy1 hy2 rfl (by omega) _ shown.length (shown.map .bool) rfl (oB.alloc _) ⟨wc.heap.size, 0, none⟩ 1 1 [.bool false] rfl rfl (World.news_of_block (heap_alloc_new _ _)) (by simp [Value.oneCell']) (by omega) (by unfold maxLen; omega) (by omega) (by omega) (wc.heap.size + 1) (by simp) ?_; intro g' cap' w2 hown2 hgrow2 hat2 hlt2; have q2 : w2.cell? ⟨p, 3, none⟩ = some (.slice (some ⟨bs, 0, none⟩) shown.length cs) := (hgrow2.cell_far ⟨p, 3, none⟩ (by simp; omega) (fun e => hps (Option.some.inj e))).trans ((World.cell?_alloc_lt _ _ _ pB).trans b3); have q3 : w2.frozen? ⟨p, 3, none⟩ = false := (hgrow2.frozen_far ⟨p, 3, none⟩ (by simp; omega) (fun e => hps (Option.some.inj e))).trans ((World.frozen?_alloc_old _ _ _ (by simp; omega)).trans f3))
    obtain ⟨rawC, kpC, frC, boxC⟩ := StC.mk RB.out (by simpa using HSS.out) KB.out FB.out BB.out HB.out (Kp.alloc _) hown2 hgrow2 hat2 hbs
    clear hown2 hgrow2 hat2 hlt2 q2 q3 b3 f3 oB pB
    generalize (w2.setCell ⟨p, 3, none⟩ (.slice (some ⟨g', 0, none⟩) (shown.length + 1) cap')) = C at *
    obtain ⟨w3, hupd, hmap, hk3, _⟩ := rawC.uniq.update keyNode Tryz.underlying106 ((v : Int), (lo : Int), (hi : Int)) nodes.length
    have c5 := rawC.c5
    have e0 : C.cell? ⟨B, 0, none⟩ = some (.int .i64 v) := by simp [World.cell?, boxC]
    have e1 : C.cell? ⟨B, 1, none⟩ = some (.int .i64 lo) := by simp [World.cell?, boxC]
    have e2 : C.cell? ⟨B, 2, none⟩ = some (.int .i64 hi) := by simp [World.cell?, boxC]
    have up : (Instr.mapUpdate 106 (.map (some L.bu)) (.agg #[.int .i64 v, .int .i64 lo, .int .i64 hi]) (.int .i64 nodes.length)).run Tryz.prog C.drew = .ok () w3.drew := hupd 1
    have FIN : Hid (NewPost p L order level nodes shown U F v lo hi w (.returned (.int .i64 nodes.length)) w3.drew) :=
      ⟨_, rfl, (rawC.setUniq hmap hk3).no Kp.drew, (kpC.trans frC (hk3.mono (fun k _ e => .inr (.inl e)))).trans_no Kp.drew, frC⟩
    clear hupd hmap hk3 rawC kpC frC boxC RB KB FB BB
    simp only at c5
    generalize L.bu = bu at *
    go_region
    go_wp2
    go_ret
    exact FIN.out

end Go.Proofs.YtdgnbbmgcgfibaaGreatDoor

namespace Go.Proofs.YtdgnbbmgcgfibaaGreatDoor
open Go.RowKit

theorem ownsRow_cut {w : World} {e size n n' g cap : Nat} {xs : List Value} (h : w.ownsRow 0 e size (.slice (some ⟨g, 0, none⟩) n cap) n xs) (hn : n' ≤ n) :
    w.ownsRow 0 e size (.slice (some ⟨g, 0, none⟩) n' cap) n' (xs.take (n' * size)) := by
  have hm : n' * size ≤ n * size := Nat.mul_le_mul_right _ hn
  refine ⟨by rw [List.length_take, h.1]; omega, ?_⟩
  rcases h.2 with ⟨hx, _⟩ | ⟨g', cap', cur, hv, hb, hg, h1, h2, h3, h4⟩
  · cases hx
  · cases hv
    exact .inr ⟨g, cap, cur, rfl, hb, hg, by omega, h2, h3, by rw [← h4, List.take_take]; congr 1; omega⟩

theorem flat_set (l : List Nd) (f : Nat) (x : Nd) (h : f < l.length) :
    (((l.flatMap ndCells).set (f * 3) (.int .i64 x.1)).set (f * 3 + 1) (.int .i64 (x.2.1 : Int))).set (f * 3 + 2) (.int .i64 (x.2.2 : Int)) = (l.set f x).flatMap ndCells := by
  induction l generalizing f with
  | nil => simp at h
  | cons y l ih =>
    cases f with
    | zero => simp [ndCells]
    | succ f =>
      have := ih f (by simpa using h)
      have e0 : (f + 1) * 3 = f * 3 + 1 + 1 + 1 := by omega
      have e1 : (f + 1) * 3 + 1 = f * 3 + 1 + 1 + 1 + 1 := by omega
      have e2 : (f + 1) * 3 + 2 = f * 3 + 2 + 1 + 1 + 1 := by omega
      rw [e1, e2, e0]
      simp only [List.flatMap_cons, List.set_cons_succ]
      rw [← this]
      simp only [ndCells, List.cons_append, List.nil_append, List.set_cons_succ]

/-- What 'node' does if the node is not there, and a place is free. -/
def FreePost (p : Nat) (L : Lay) (order level : List Nat) (nodes : List Nd) (shown : List Bool) (free : List Nat) (f : Nat) (U F : Trip → Option Nat) (v lo hi : Nat) (w : World) (e : Ending) (w' : World) : Prop :=
  ∃ L', e = .returned (.int .i64 f) ∧ Raw w' p L' order level (nodes.set f ((v : Int), lo, hi)) shown free (fun x => if x = ((v : Int), (lo : Int), (hi : Int)) then some f else U x) F ∧
    Kp (L.at p) w w' ∧ Fresh (L.at p) (L'.at p) w

set_option maxRecDepth 100000 in
set_option maxHeartbeats 1000000 in
theorem node_free {p : Nat} {L : Lay} {order level : List Nat} {nodes : List Nd} {shown : List Bool} {free : List Nat} {f : Nat} {U F : Trip → Option Nat} (v lo hi : Nat) {w : World}
    (raw : Raw w p L order level nodes shown (free ++ [f]) U F) (hne : lo ≠ hi) (hu : U (v, lo, hi) = none) (hf : f < nodes.length) :
    Calls Tryz.prog 41 #[ptr p, .int .i64 v, .int .i64 lo, .int .i64 hi] w (FreePost p L order level nodes shown free f U F v lo hi w) := by
  have hne' : ((lo : Int) == (hi : Int)) = false := by simp; omega
  have c5 := raw.c5
  have c2 := raw.c2
  have c4 := raw.c4
  have z4 := raw.fz 4
  have plt := raw.plt
  obtain ⟨bn, cn, hsn, hn1, hn2, _, hncell, hnfz⟩ := ownsRow_open raw.nodes (by omega)
  obtain ⟨bf, cf, hsf, hf1, hf2, _, hfcell, _⟩ := ownsRow_open raw.free (by simp)
  have hpn : p ≠ bn := fun e => raw.row_mgr raw.nodes (by decide) (by rw [hsn, e]; rfl)
  have hpf : p ≠ bf := fun e => raw.row_mgr raw.free (by decide) (by rw [hsf, e]; rfl)
  have hnf : bn ≠ bf := fun e => row_ne raw.nodes raw.free (by decide) (k := bn) (by rw [hsn]; rfl) (by rw [hsf, e]; rfl)
  have hm := maxLen_val
  have cf0 : w.cell? ⟨bf, free.length, none⟩ = some (.int .i64 f) := hfcell _ _ (by simp [natV])
  have bflt := World.block_lt_of_cell? _ _ cf0
  have hg := ndCells_get nodes f 0 (nodes[f]) (by simp [hf]) (by omega)
  have k0 := hncell _ _ (ndCells_get nodes f 0 (nodes[f]) (by simp [hf]) (by omega))
  have k1 := hncell _ _ (ndCells_get nodes f 1 (nodes[f]) (by simp [hf]) (by omega))
  have k2 := hncell _ _ (ndCells_get nodes f 2 (nodes[f]) (by simp [hf]) (by omega))
  have bnlt := World.block_lt_of_cell? _ _ k0
  have y0 := hnfz (f * 3)
  have y1 := hnfz (f * 3 + 1)
  have y2 := hnfz (f * 3 + 2)
  rw [hsn] at c2
  rw [hsf] at c4
  simp only [List.length_append, List.length_singleton] at c4 hf1
  have hl2 : ∀ n, (Instr.lookup 106 (.map (some L.bu)) (.agg #[.int .i64 v, .int .i64 lo, .int .i64 hi]) true).run Tryz.prog ((w.alloc (box3 v lo hi)).drewN n) = .ok (.tuple #[.int .i64 0, .bool false]) ((w.alloc (box3 v lo hi)).drewN n) := fun n => by
    have := (raw.uniq.kp (Kp.trans_no (Kp.alloc (box3 v lo hi)) (Kp.drewN n)) (fun x => x)).lookup keyNode Tryz.underlying106 zeroRef ((v : Int), (lo : Int), (hi : Int)) true
    rw [hu] at this
    exact this
  have RAW := Lib.hid raw
  have HSN := Lib.hid hsn
  have HSF := Lib.hid hsf
  have NN : nodes.length ≤ 9223372036854775807 := by omega
  have FF : free.length + 1 ≤ 9223372036854775807 := by omega
  have q1 : (f : Int) < nodes.length := by omega
  have q2 : (free.length : Int) + 1 ≤ cf := by omega
  clear raw hu hsn hsf hncell hnfz hfcell hg hm hne
  go_enter Tryz.func41, Tryz.ntmps41
  go_wp2
  go_quiet (fail)
  go_wp2
  -- the box; the field 'free'
  have kpA : Kp No w ((w.alloc (Obj.cells #[.int .i64 v, .int .i64 lo, .int .i64 hi] 103)).drewN nq) := (Kp.alloc _).trans_no (Kp.drewN _)
  have boxA : ((w.alloc (Obj.cells #[.int .i64 v, .int .i64 lo, .int .i64 hi] 103)).drewN nq).heap[w.heap.size]? = some (Obj.cells #[.int .i64 v, .int .i64 lo, .int .i64 hi] 103 (0, 0)) := heap_alloc_new _ _
  clear hl2 c2 c4 c5 k0 k1 k2 y0 y1 y2 z4 cf0
  generalize ((w.alloc (Obj.cells #[.int .i64 v, .int .i64 lo, .int .i64 hi] 103)).drewN nq) = A at *
  have rawA := RAW.out.no kpA
  have oA := rawA.free
  rw [HSF.out] at oA
  have oA' := ownsRow_cut oA (n' := free.length) (by simp)
  rw [Nat.mul_one, List.map_append, List.take_left' (by simp)] at oA'
  have rawB := rawA.setFree (free' := free) oA'
  have boxB : (A.setCell ⟨p, 4, none⟩ (.slice (some ⟨bf, 0, none⟩) free.length cf)).heap[w.heap.size]? = some (Obj.cells #[.int .i64 v, .int .i64 lo, .int .i64 hi] 103 (0, 0)) := by
    rw [Below.heap_setCell _ _ _ _ (by simp; omega)]; exact boxA
  have kpB : Kp (L.at p) w (A.setCell ⟨p, 4, none⟩ (.slice (some ⟨bf, 0, none⟩) free.length cf)) := kpA.no_trans ((Kp.setCell _ _).mono (fun k _ e => .inl e))
  have frB : Fresh (L.at p) (Lay.at { L with sf := .slice (some ⟨bf, 0, none⟩) free.length cf } p) w := fun k hk => .inl (by
    rcases hk with h | h | h | h | h | h | h | h
    · exact .inl h
    · exact .inr (.inl h)
    · exact .inr (.inr (.inl h))
    · simp [Lay.at] at h ⊢; simp [h]
    · simp [Lay.at] at h ⊢; simp [h]
    · simp [Lay.at] at h ⊢; simp [h]
    · simp [Lay.at] at h ⊢; simp [h]
    · have : L.sf.ownBlock = some k := by rw [HSF.out]; exact h
      simp [Lay.at, this])
  clear rawA oA oA' kpA boxA
  generalize (A.setCell ⟨p, 4, none⟩ (.slice (some ⟨bf, 0, none⟩) free.length cf)) = W at *
  have c2 := rawB.c2
  have oN := rawB.nodes
  simp only [HSN.out] at c2 oN
  obtain ⟨bn', cn', he, _, _, _, hncell, hnfz⟩ := ownsRow_open oN (by omega)
  cases he
  have k0 := hncell _ _ (ndCells_get nodes f 0 (nodes[f]) (by simp [hf]) (by omega))
  have k1 := hncell _ _ (ndCells_get nodes f 1 (nodes[f]) (by simp [hf]) (by omega))
  have k2 := hncell _ _ (ndCells_get nodes f 2 (nodes[f]) (by simp [hf]) (by omega))
  have y0 := hnfz (f * 3)
  have y1 := hnfz (f * 3 + 1)
  have y2 := hnfz (f * 3 + 2)
  simp only [Nat.add_zero] at k0
  have e0 : W.cell? ⟨w.heap.size, 0, none⟩ = some (.int .i64 v) := by simp [World.cell?, boxB]
  have e1 : W.cell? ⟨w.heap.size, 1, none⟩ = some (.int .i64 lo) := by simp [World.cell?, boxB]
  have e2 : W.cell? ⟨w.heap.size, 2, none⟩ = some (.int .i64 hi) := by simp [World.cell?, boxB]
  have hbB : bn ≠ w.heap.size := by omega
  have hk : Kp (fun k => L.sn.ownBlock = some k) W (((W.setCell ⟨bn, f * 3, none⟩ (.int .i64 v)).setCell ⟨bn, f * 3 + 1, none⟩ (.int .i64 lo)).setCell ⟨bn, f * 3 + 2, none⟩ (.int .i64 hi)) := by
    have hs : ∀ (X : World) (i : Nat) (u : Value), Kp (fun k => L.sn.ownBlock = some k) X (X.setCell ⟨bn, i, none⟩ u) := fun X i u => (Kp.setCell _ _).mono (fun k _ e => by rw [HSN.out, e]; rfl)
    exact ((hs _ _ _).trans (A' := fun k => L.sn.ownBlock = some k) (fun k h => .inl h) (hs _ _ _)).trans (A' := fun k => L.sn.ownBlock = some k) (fun k h => .inl h) (hs _ _ _)
  have oN3 := ownsRow_store (ownsRow_store (ownsRow_store oN (f * 3) (.int .i64 v)) (f * 3 + 1) (.int .i64 lo)) (f * 3 + 2) (.int .i64 hi)
  rw [show (((nodes.flatMap ndCells).set (f * 3) (.int .i64 (v : Int))).set (f * 3 + 1) (.int .i64 (lo : Int))).set (f * 3 + 2) (.int .i64 (hi : Int)) = (nodes.set f ((v : Int), lo, hi)).flatMap ndCells from flat_set nodes f ((v : Int), lo, hi) hf] at oN3
  have rawC := rawB.kpNodes hk (nodes.set f ((v : Int), lo, hi)) (by simpa [HSN.out] using oN3)
  have boxC : (((W.setCell ⟨bn, f * 3, none⟩ (.int .i64 v)).setCell ⟨bn, f * 3 + 1, none⟩ (.int .i64 lo)).setCell ⟨bn, f * 3 + 2, none⟩ (.int .i64 hi)).heap[w.heap.size]? = some (Obj.cells #[.int .i64 v, .int .i64 lo, .int .i64 hi] 103 (0, 0)) := by
    rw [hk.block _ (heap_lt boxB) (fun e => by rw [HSN.out] at e; simp [Value.ownBlock] at e; omega)]; exact boxB
  obtain ⟨w3, hupd, hmap, hk3, _⟩ := rawC.uniq.update keyNode Tryz.underlying106 ((v : Int), (lo : Int), (hi : Int)) f
  have c5 := rawC.c5
  have j0 : (((W.setCell ⟨bn, f * 3, none⟩ (.int .i64 v)).setCell ⟨bn, f * 3 + 1, none⟩ (.int .i64 lo)).setCell ⟨bn, f * 3 + 2, none⟩ (.int .i64 hi)).cell? ⟨w.heap.size, 0, none⟩ = some (.int .i64 v) := by simp [World.cell?, boxC]
  have j1 : (((W.setCell ⟨bn, f * 3, none⟩ (.int .i64 v)).setCell ⟨bn, f * 3 + 1, none⟩ (.int .i64 lo)).setCell ⟨bn, f * 3 + 2, none⟩ (.int .i64 hi)).cell? ⟨w.heap.size, 1, none⟩ = some (.int .i64 lo) := by simp [World.cell?, boxC]
  have j2 : (((W.setCell ⟨bn, f * 3, none⟩ (.int .i64 v)).setCell ⟨bn, f * 3 + 1, none⟩ (.int .i64 lo)).setCell ⟨bn, f * 3 + 2, none⟩ (.int .i64 hi)).cell? ⟨w.heap.size, 2, none⟩ = some (.int .i64 hi) := by simp [World.cell?, boxC]
  have up : ∀ n, (Instr.mapUpdate 106 (.map (some L.bu)) (.agg #[.int .i64 v, .int .i64 lo, .int .i64 hi]) (.int .i64 f)).run Tryz.prog ((((W.setCell ⟨bn, f * 3, none⟩ (.int .i64 v)).setCell ⟨bn, f * 3 + 1, none⟩ (.int .i64 lo)).setCell ⟨bn, f * 3 + 2, none⟩ (.int .i64 hi)).drewN n) = .ok () (w3.drewN n) := hupd
  have FIN : Hid (∀ n, FreePost p L order level nodes shown free f U F v lo hi w (.returned (.int .i64 f)) (w3.drewN n)) := fun n =>
    ⟨_, rfl, (rawC.setUniq hmap hk3).no (Kp.drewN n), ((kpB.trans frB (hk.mono (fun k _ e => by simp [Lay.at, e]))).trans frB (hk3.mono (fun k _ e => .inr (.inl e)))).trans_no (Kp.drewN n), frB⟩
  have UP := Lib.hid up
  have J0 := Lib.hid j0
  have J1 := Lib.hid j1
  have J2 := Lib.hid j2
  have C5 := Lib.hid c5
  clear hupd hmap hk3 rawC kpB frB boxC boxB rawB oN oN3 hk hncell hnfz RAW HSN HSF up j0 j1 j2 c5
  generalize w.heap.size = B at *
  go_region
  go_wp2
  have j0 := J0.out
  have j1 := J1.out
  have j2 := J2.out
  have c5 := C5.out
  have up := UP.out 2
  clear J0 J1 J2 C5 UP k0 k1 k2 y0 y1 y2 e0 e1 e2 c2
  generalize (((W.setCell ⟨bn, f * 3, none⟩ (.int .i64 v)).setCell ⟨bn, f * 3 + 1, none⟩ (.int .i64 lo)).setCell ⟨bn, f * 3 + 2, none⟩ (.int .i64 hi)) = X at *
  have up2 : (Instr.mapUpdate 106 (.map (some L.bu)) (.agg #[.int .i64 v, .int .i64 lo, .int .i64 hi]) (.int .i64 f)).run Tryz.prog X.drew.drew = .ok () w3.drew.drew := up
  clear up
  generalize L.bu = bu at *
  go_region
  go_wp2
  go_ret
  exact FIN.out 2

/-- The contract of 'node'. -/
theorem node_ok {p : Nat} {M : Mgr} {L : Lay} (v lo hi : Nat) {w : World} (R : Rep w p M L) (hv : v < M.n) (hl : M.stored lo) (hh : M.stored hi) (dl : M.lev v < M.depth lo) (dh : M.lev v < M.depth hi)
    (hb : (M.put v lo hi).1.nodes.length ≤ big) :
    Calls Tryz.prog 41 #[ptr p, .int .i64 v, .int .i64 lo, .int .i64 hi] w (Ret p L w (M.put v lo hi).1 (.int .i64 (M.put v lo hi).2)) := by
  obtain ⟨F, raw, snd⟩ := R.raw
  have ps := Mgr.put_spec R.wf hv hl hh dl dh
  have huq : M.uq ((v : Int), (lo : Int), (hi : Int)) = M.find ((v : Int), lo, hi) := by simp [Mgr.uq]
  by_cases e : lo = hi
  · have e1 : M.put v lo hi = (M, lo) := by unfold Mgr.put; rw [if_pos e]
    subst e
    rw [e1]
    refine (node_same p v lo w).mono ?_
    rintro e w' ⟨rfl, rfl⟩
    exact ⟨L, rfl, R, Kp.refl _ _, fun k h => .inl h⟩
  · cases hf : M.find ((v : Int), lo, hi) with
    | some r =>
      have e1 : M.put v lo hi = (M, r) := by unfold Mgr.put; rw [if_neg e, hf]
      rw [e1]
      refine (node_found (v : Int) lo hi r raw (by omega) (by rw [huq, hf])).mono ?_
      rintro e w' ⟨rfl, hk⟩
      exact ⟨L, rfl, ⟨⟨F, raw.no hk, snd⟩, R.wf⟩, hk.of_no, fun k h => .inl h⟩
    | none =>
      have uqNew : ∀ (M' : Mgr) (r : Nat), M'.WF → M'.stored r → 2 ≤ r → M'.nd r = ((v : Int), lo, hi) → (∀ x : Nd, x ≠ ((v : Int), lo, hi) → x.1 ≠ -1 → M'.find x = M.find x) →
          (fun x => if x = ((v : Int), (lo : Int), (hi : Int)) then some r else M.uq x) = M'.uq := by
        intro M' r wf' st h2 hn hold
        funext x
        by_cases hx : x = ((v : Int), (lo : Int), (hi : Int))
        · subst hx
          rw [if_pos rfl]
          simp only [Mgr.uq, Int.toNat_natCast]
          rw [if_pos (by omega), ← hn, Mgr.find_eq wf' h2 st]
        · rw [if_neg hx]
          unfold Mgr.uq
          split
          · rename_i hpos
            refine (hold _ (fun h => hx ?_) (by simp; omega)).symm
            simp only [Prod.mk.injEq] at h
            obtain ⟨a, b, c⟩ := x
            simp only at h hpos ⊢
            rw [h.1, ← h.2.1, ← h.2.2, Int.toNat_of_nonneg hpos.2.1, Int.toNat_of_nonneg hpos.2.2]
          · rfl
      -- the finds in the new store
      have findOld : ∀ (M' : Mgr) (r : Nat), M'.WF → M'.nd r = ((v : Int), lo, hi) → (∀ g, g ≠ r → M'.nd g = M.nd g) → (¬ M.stored r) → (∀ g, g < M'.nodes.length → g < M.nodes.length ∨ g = r) → M.nodes.length ≤ M'.nodes.length →
          ∀ x : Nd, x ≠ ((v : Int), lo, hi) → x.1 ≠ -1 → M'.find x = M.find x := by
        intro M' r wf' hn hold hst hll hlen x hx hx1
        cases h1 : M.find x with
        | some g =>
          obtain ⟨g2, gl, gn⟩ := Mgr.find_some h1
          have hgr : g ≠ r := fun e => hst (e ▸ .inr ⟨gl, by rw [gn]; exact hx1⟩)
          have hg' : M'.nd g = x := by rw [hold g hgr]; exact gn
          rw [← hg', Mgr.find_eq wf' g2 (.inr ⟨by omega, by rw [hg']; exact hx1⟩)]
        | none =>
          have hno := Mgr.find_none h1
          cases h2 : M'.find x with
          | none => rfl
          | some g =>
            obtain ⟨g2, gl, gn⟩ := Mgr.find_some h2
            exfalso
            by_cases hgr : g = r
            · rw [hgr, hn] at gn; exact hx gn.symm
            · exact hno g g2 ((hll g gl).resolve_right hgr) (by rw [← hold g hgr]; exact gn)
      cases hg : M.free.getLast? with
      | some f =>
        have hmem : f ∈ M.free := List.mem_of_getLast? hg
        obtain ⟨f2, fl, fv⟩ := R.wf.fr f hmem
        have hsplit : M.free = M.free.dropLast ++ [f] := by
          rw [List.getLast?_eq_some_iff] at hg
          obtain ⟨ys, hy⟩ := hg
          rw [hy]; simp
        have e1 : M.put v lo hi = ({ M with nodes := M.nodes.set f ((v : Int), lo, hi), free := M.free.dropLast }, f) := by unfold Mgr.put; rw [if_neg e, hf]; simp only [hg]
        rw [e1] at ps ⊢
        rw [hsplit] at raw
        refine (node_free v lo hi raw e (by rw [huq, hf]) fl).mono ?_
        rintro e w' ⟨L', rfl, raw', hk, hfr⟩
        have hnew : ({ M with nodes := M.nodes.set f ((v : Int), lo, hi), free := M.free.dropLast } : Mgr).nd f = ((v : Int), lo, hi) := by simp [Mgr.nd, fl]
        rw [uqNew _ f ps.wf ps.st f2 hnew (findOld _ f ps.wf hnew (fun g hne => by simp [Mgr.nd, Ne.symm hne]) (fun hs => by rcases hs with hs | ⟨_, hs⟩ <;> first | omega | exact hs fv) (fun g hg => by simp at hg; exact .inl hg) (by simp))] at raw'
        exact ⟨L', rfl, ⟨⟨F, raw', snd.ext R.wf ps.ext⟩, ps.wf⟩, hk, hfr⟩
      | none =>
        have hfree : M.free = [] := by simpa using hg
        have e1 : M.put v lo hi = ({ M with nodes := M.nodes ++ [((v : Int), lo, hi)], shown := M.shown ++ [false] }, M.nodes.length) := by unfold Mgr.put; rw [if_neg e, hf]; simp only [hg]
        rw [e1] at ps hb ⊢
        have two := R.wf.two
        have hsh := R.wf.sh
        simp at hb
        rw [hfree] at raw
        refine (node_new v lo hi raw e (by rw [huq, hf]) (by omega) (by omega) (by omega) (by omega)).mono ?_
        rintro e w' ⟨L', rfl, raw', hk, hfr⟩
        have hnew : ({ M with nodes := M.nodes ++ [((v : Int), lo, hi)], shown := M.shown ++ [false] } : Mgr).nd M.nodes.length = ((v : Int), lo, hi) := by simp [Mgr.nd]
        rw [uqNew _ M.nodes.length ps.wf ps.st two hnew (findOld _ M.nodes.length ps.wf hnew (fun g hne => by
            simp only [Mgr.nd, List.getD_eq_getElem?_getD, List.getElem?_append]
            split
            · rfl
            · rw [List.getElem?_eq_none (by simp; omega), List.getElem?_eq_none (by omega)]) (fun hs => by rcases hs with hs | ⟨hs, _⟩ <;> omega) (fun g hg => by simp at hg; omega) (by simp))] at raw'
        refine ⟨L', rfl, ⟨⟨F, ?_, snd.ext R.wf ps.ext⟩, ps.wf⟩, hk, hfr⟩
        simpa [hfree] using raw'

end Go.Proofs.YtdgnbbmgcgfibaaGreatDoor

namespace Go.Proofs.YtdgnbbmgcgfibaaGreatDoor
open Go.RowKit

theorem Rep.no {w w' : World} {p : Nat} {M : Mgr} {L : Lay} (R : Rep w p M L) (h : Kp No w w') : Rep w' p M L := by
  obtain ⟨F, raw, s⟩ := R.raw
  exact ⟨⟨F, raw.no h, s⟩, R.wf⟩
theorem Rep.kp {A : Nat → Prop} {w w' : World} {p : Nat} {M : Mgr} {L : Lay} (R : Rep w p M L) (h : Kp A w w') (hA : ∀ k, A k → ¬ L.at p k) : Rep w' p M L := by
  obtain ⟨F, raw, s⟩ := R.raw
  exact ⟨⟨F, raw.kp h hA, s⟩, R.wf⟩
theorem Rep.lt {w : World} {p : Nat} {M : Mgr} {L : Lay} (R : Rep w p M L) : ∀ k, L.at p k → k < w.heap.size := by
  obtain ⟨F, raw, s⟩ := R.raw
  exact raw.lt
/-- A state on the way: what was known at w0, a block B of the call's own. -/
structure St (w0 : World) (p : Nat) (L0 : Lay) (B : Nat) (bx : Obj) (w : World) (M : Mgr) (L : Lay) : Prop where
  rep : Rep w p M L
  kp : Kp (L0.at p) w0 w
  fr : Fresh (L0.at p) (L.at p) w0
  box : w.heap[B]? = some bx
  bh : w0.heap.size ≤ B
  bn : ¬ L.at p B

theorem St.no {w0 : World} {p : Nat} {L0 : Lay} {B : Nat} {bx : Obj} {w w' : World} {M : Mgr} {L : Lay} (s : St w0 p L0 B bx w M L) (h : Kp No w w') : St w0 p L0 B bx w' M L :=
  ⟨s.rep.no h, s.kp.trans_no h, s.fr, by rw [h.block B (heap_lt s.box) (fun x => x)]; exact s.box, s.bh, s.bn⟩

theorem St.step {w0 : World} {p : Nat} {L0 : Lay} {B : Nat} {bx : Obj} {w w' : World} {M M' : Mgr} {L : Lay} {v : Value} {e : Ending} (s : St w0 p L0 B bx w M L) (h : Ret p L w M' v e w') :
    e = .returned v ∧ ∃ L', St w0 p L0 B bx w' M' L' := by
  obtain ⟨L', he, r, k, f⟩ := h
  refine ⟨he, L', r, s.kp.trans s.fr k, fun x hx => ?_, ?_, s.bh, fun hx => ?_⟩
  · rcases f x hx with h1 | h1
    · exact s.fr x h1
    · right; have := s.kp.size; omega
  · rw [k.block B (heap_lt s.box) s.bn]; exact s.box
  · rcases f B hx with h1 | h1
    · exact s.bn h1
    · have := heap_lt s.box; omega

theorem St.start {w : World} {p : Nat} {M : Mgr} {L : Lay} (R : Rep w p M L) (o : Obj) : St w p L w.heap.size o (w.alloc o) M L :=
  ⟨R.no (Kp.alloc o), (Kp.alloc o).of_no, fun _ h => .inl h, heap_alloc_new w o, Nat.le_refl _, fun h => by have := R.lt _ h; omega⟩

def iteF (M : Mgr) (f g h : Nat) : (Nat → Bool) → Bool := fun a => if M.sem f a then M.sem g a else M.sem h a

theorem iteF_reads {M : Mgr} (wf : M.WF) {f g h d : Nat} (hf : M.stored f) (hg : M.stored g) (hh : M.stored h) (df : d ≤ M.depth f) (dg : d ≤ M.depth g) (dh : d ≤ M.depth h) : M.Reads d (iteF M f g h) := by
  intro a b hab
  unfold iteF
  rw [Mgr.sem_agree wf _ f hf (Nat.le_refl _) a b (fun v hv h => hab v hv (by omega)), Mgr.sem_agree wf _ g hg (Nat.le_refl _) a b (fun v hv h => hab v hv (by omega)),
    Mgr.sem_agree wf _ h hh (Nat.le_refl _) a b (fun v hv h => hab v hv (by omega))]

/-- The depth of f as an integer: closed to the walk. -/
def dI (M : Mgr) (f : Nat) : Int := (M.depth f : Int)
theorem depth_I {p : Nat} {M : Mgr} {L : Lay} (f : Nat) {w : World} (R : Rep w p M L) (hf : M.stored f) :
    Calls Tryz.prog 96 #[ptr p, .int .i64 f] w fun e w' => e = .returned (.int .i64 (dI M f)) ∧ ∃ k, w' = w.drewN k := depth_ok f R hf

/-- The cofactors of a stored function at a level above or at its own. -/
theorem Mgr.sp_spec {M : Mgr} (wf : M.WF) {f : Nat} (hf : M.stored f) {i : Nat} (hi : i < M.n) (hd : i ≤ M.depth f) :
    M.stored (M.sp f (M.ord i)).1 ∧ M.stored (M.sp f (M.ord i)).2 ∧ i < M.depth (M.sp f (M.ord i)).1 ∧ i < M.depth (M.sp f (M.ord i)).2 ∧
    (∀ a, M.sem (M.sp f (M.ord i)).1 a = M.sem f (upd a (M.ord i) false)) ∧ (∀ a, M.sem (M.sp f (M.ord i)).2 a = M.sem f (upd a (M.ord i) true)) := by
  obtain ⟨o1, o2⟩ := wf.lo_ i hi
  unfold sp
  by_cases e : (M.nd f).1 = (M.ord i : Int)
  · rw [if_pos e]
    have h2 : 2 ≤ f := by
      rcases Nat.lt_or_ge f 2 with h | h
      · exfalso
        have : f = 0 ∨ f = 1 := by omega
        rcases this with rfl | rfl
        · rw [wf.nd0] at e; simp at e
        · rw [wf.nd1] at e; simp at e
      · exact h
    obtain ⟨_, _, sl, sh, _, dl, dh⟩ := node_of wf hf h2
    have hv : (M.nd f).1.toNat = M.ord i := by omega
    have hdd : M.depth f = i := by unfold depth; rw [if_neg (by omega), hv, o2]
    refine ⟨sl, sh, by omega, by omega, fun a => ?_, fun a => ?_⟩
    · rw [sem_lo wf hf h2, hv]
    · rw [sem_hi wf hf h2, hv]
  · rw [if_neg e]
    have hlt : i < M.depth f := by
      rcases Nat.lt_or_ge i (M.depth f) with h | h
      · exact h
      · exfalso
        have hde : M.depth f = i := by omega
        have h2 : 2 ≤ f := by
          rcases Nat.lt_or_ge f 2 with h | h
          · unfold depth at hde; rw [if_pos h] at hde; omega
          · exact h
        obtain ⟨v0, v1, _⟩ := node_of wf hf h2
        have hd2 : M.depth f = M.lev (M.nd f).1.toNat := by unfold depth; rw [if_neg (by omega)]
        have : (M.nd f).1.toNat = M.ord i := by rw [← hde, hd2, (wf.ol _ (by omega)).2]
        omega
    exact ⟨hf, hf, hlt, hlt, fun a => by rw [sem_upd wf hf _ _ _ (by omega)], fun a => by rw [sem_upd wf hf _ _ _ (by omega)]⟩

/-- How 'ite' goes on at the first level that one of its arguments reads. -/
structure Plan (M : Mgr) (f g h k i j : Nat) (A B : Mgr × Nat) : Prop where
  hi : i < M.n
  hj : j < k
  hij : M.n - j = i + 1
  jn : j ≤ M.n
  min : (if dI M h < (if dI M g < dI M f then dI M g else dI M f) then dI M h else (if dI M g < dI M f then dI M g else dI M f)) = (i : Int)
  pf : M.stored (M.sp f (M.ord i)).1 ∧ M.stored (M.sp f (M.ord i)).2 ∧ M.n - j ≤ M.depth (M.sp f (M.ord i)).1 ∧ M.n - j ≤ M.depth (M.sp f (M.ord i)).2
  pg : M.stored (M.sp g (M.ord i)).1 ∧ M.stored (M.sp g (M.ord i)).2 ∧ M.n - j ≤ M.depth (M.sp g (M.ord i)).1 ∧ M.n - j ≤ M.depth (M.sp g (M.ord i)).2
  ph : M.stored (M.sp h (M.ord i)).1 ∧ M.stored (M.sp h (M.ord i)).2 ∧ M.n - j ≤ M.depth (M.sp h (M.ord i)).1 ∧ M.n - j ≤ M.depth (M.sp h (M.ord i)).2
  eA : A = Mgr.build j M (iteF M (M.sp f (M.ord i)).1 (M.sp g (M.ord i)).1 (M.sp h (M.ord i)).1)
  sA : M.BuildSpec (M.n - j) (iteF M (M.sp f (M.ord i)).1 (M.sp g (M.ord i)).1 (M.sp h (M.ord i)).1) A.1 A.2
  eB : B = Mgr.build j A.1 (iteF A.1 (M.sp f (M.ord i)).2 (M.sp g (M.ord i)).2 (M.sp h (M.ord i)).2)
  sB : A.1.BuildSpec (A.1.n - j) (iteF A.1 (M.sp f (M.ord i)).2 (M.sp g (M.ord i)).2 (M.sp h (M.ord i)).2) B.1 B.2
  v : M.ord i < B.1.n
  dA : B.1.lev (M.ord i) < B.1.depth A.2
  dB : B.1.lev (M.ord i) < B.1.depth B.2
  fin : Mgr.build k M (iteF M f g h) = B.1.put (M.ord i) A.2 B.2
  lA : A.1.nodes.length ≤ (B.1.put (M.ord i) A.2 B.2).1.nodes.length
  lB : B.1.nodes.length ≤ (B.1.put (M.ord i) A.2 B.2).1.nodes.length
  sem : ∀ a, (B.1.put (M.ord i) A.2 B.2).1.sem (B.1.put (M.ord i) A.2 B.2).2 a = iteF M f g h a
  st : (B.1.put (M.ord i) A.2 B.2).1.stored (B.1.put (M.ord i) A.2 B.2).2
  ext : M.Ext (B.1.put (M.ord i) A.2 B.2).1

theorem plan {M : Mgr} (wf : M.WF) {f g h k : Nat} (sf : M.stored f) (sg : M.stored g) (sh : M.stored h) (h2 : 2 ≤ f) (hk : k ≤ M.n) (df : M.n - k ≤ M.depth f) (dg : M.n - k ≤ M.depth g) (dh : M.n - k ≤ M.depth h) :
    ∃ i j A B, Plan M f g h k i j A B := by
  have hdf := M.depth_lt wf sf h2
  obtain ⟨i, hi⟩ : ∃ i, i = Nat.min (M.depth h) (Nat.min (M.depth g) (M.depth f)) := ⟨_, rfl⟩
  have hmn : ∀ x y : Nat, Nat.min x y = if x ≤ y then x else y := fun x y => by show min x y = _; rw [Nat.min_def]
  have i1 : i ≤ M.depth f ∧ i ≤ M.depth g ∧ i ≤ M.depth h ∧ M.n - k ≤ i ∧ i < M.n := by
    rw [hmn, hmn] at hi
    split at hi <;> (try split at hi) <;> omega
  obtain ⟨if_, ig, ih, ik, il⟩ := i1
  have hmin : (if dI M h < (if dI M g < dI M f then dI M g else dI M f) then dI M h else (if dI M g < dI M f then dI M g else dI M f)) = (i : Int) := by
    rw [hmn, hmn] at hi
    unfold dI
    split at hi <;> (try split at hi) <;> (repeat' split) <;> omega
  obtain ⟨a1, a2, a3, a4, a5, a6⟩ := M.sp_spec wf sf il if_
  obtain ⟨b1, b2, b3, b4, b5, b6⟩ := M.sp_spec wf sg il ig
  obtain ⟨c1, c2, c3, c4, c5, c6⟩ := M.sp_spec wf sh il ih
  obtain ⟨j, hj⟩ : ∃ j, j + 1 + i = M.n := ⟨M.n - (i + 1), by omega⟩
  have hnj : M.n - j = i + 1 := by omega
  have hni : M.n - (j + 1) = i := by omega
  have rA : M.Reads (M.n - j) (iteF M (M.sp f (M.ord i)).1 (M.sp g (M.ord i)).1 (M.sp h (M.ord i)).1) := iteF_reads wf a1 b1 c1 (by omega) (by omega) (by omega)
  have sA := Mgr.build_spec j M wf (by omega) _ rA
  generalize hA : Mgr.build j M (iteF M (M.sp f (M.ord i)).1 (M.sp g (M.ord i)).1 (M.sp h (M.ord i)).1) = A at sA
  have nA := sA.ext.n
  have rB : A.1.Reads (A.1.n - j) (iteF A.1 (M.sp f (M.ord i)).2 (M.sp g (M.ord i)).2 (M.sp h (M.ord i)).2) :=
    iteF_reads sA.wf (sA.ext.stored a2) (sA.ext.stored b2) (sA.ext.stored c2) (by rw [sA.ext.depth a2]; omega) (by rw [sA.ext.depth b2]; omega) (by rw [sA.ext.depth c2]; omega)
  have sB := Mgr.build_spec j A.1 sA.wf (by omega) _ rB
  generalize hB : Mgr.build j A.1 (iteF A.1 (M.sp f (M.ord i)).2 (M.sp g (M.ord i)).2 (M.sp h (M.ord i)).2) = B at sB
  have nB := sB.ext.n
  have lv : B.1.lev (M.ord i) = i := by rw [sB.ext.lev, sA.ext.lev]; exact (wf.lo_ i il).2
  have q1 := sA.dep
  have q2 := sB.dep
  have dA : B.1.lev (M.ord i) < B.1.depth A.2 := by rw [lv, sB.ext.depth sA.st]; omega
  have dB : B.1.lev (M.ord i) < B.1.depth B.2 := by rw [lv]; omega
  have hv : M.ord i < B.1.n := by have := (wf.lo_ i il).1; omega
  have ps := Mgr.put_spec sB.wf hv (sB.ext.stored sA.st) sB.st dA dB
  have e0 : iteF M (M.sp f (M.ord i)).1 (M.sp g (M.ord i)).1 (M.sp h (M.ord i)).1 = fun a => iteF M f g h (Mgr.upd a (M.ord i) false) := by
    funext a; unfold iteF; rw [a5, b5, c5]
  have e1 : iteF A.1 (M.sp f (M.ord i)).2 (M.sp g (M.ord i)).2 (M.sp h (M.ord i)).2 = fun a => iteF M f g h (Mgr.upd a (M.ord i) true) := by
    funext a; unfold iteF; rw [sA.ext.sem wf a2, sA.ext.sem wf b2, sA.ext.sem wf c2, a6, b6, c6]
  have fin : Mgr.build k M (iteF M f g h) = B.1.put (M.ord i) A.2 B.2 := by
    obtain ⟨d, hd⟩ : ∃ d, k = (j + 1) + d := ⟨k - (j + 1), by omega⟩
    rw [hd, Mgr.build_skips wf d (by omega) (iteF_reads wf sf sg sh (by omega) (by omega) (by omega))]
    unfold Mgr.build
    simp only [hni]
    rw [← e0, hA, ← e1, hB]
  have sF := Mgr.build_spec k M wf hk _ (iteF_reads wf sf sg sh df dg dh)
  rw [fin] at sF
  exact ⟨i, j, A, B, ⟨il, by omega, hnj, by omega, hmin, ⟨a1, a2, by omega, by omega⟩, ⟨b1, b2, by omega, by omega⟩, ⟨c1, c2, by omega, by omega⟩, hA.symm, sA, hB.symm, sB, hv, dA, dB, fin,
    Nat.le_trans sB.ext.len ps.ext.len, ps.ext.len, sF.sem, sF.st, sF.ext⟩⟩

end Go.Proofs.YtdgnbbmgcgfibaaGreatDoor

namespace Go.Proofs.YtdgnbbmgcgfibaaGreatDoor
open Go.RowKit

/-- The triple with which 'ite' goes on. -/
def Nrm (M : Mgr) (f g h : Nat) (k : Nat) (f2 g2 h2 : Nat) : Prop :=
  M.stored f2 ∧ M.stored g2 ∧ M.stored h2 ∧ 2 ≤ f2 ∧ iteF M f2 g2 h2 = iteF M f g h ∧ M.n - k ≤ M.depth f2 ∧ M.n - k ≤ M.depth g2 ∧ M.n - k ≤ M.depth h2

/-- What the slots hold behind the switch. -/
def Sw (M : Mgr) (f g h : Nat) (k : Nat) (w : World) (s1 s2 s3 : Value) (x : World) : Prop :=
  ∃ f2 g2 h2 : Nat, Nrm M f g h k f2 g2 h2 ∧ s1 = .int .i64 f2 ∧ s2 = .int .i64 g2 ∧ s3 = .int .i64 h2 ∧ x = w

theorem Mgr.depth_const (M : Mgr) {f : Nat} (h : f < 2) : M.depth f = M.n := by unfold depth; rw [if_pos h]

theorem iteF_norm (M : Mgr) (f g h : Nat) : iteF M f (if f = g then 1 else g) (if f = h then 0 else h) = iteF M f g h := by
  funext a
  unfold iteF
  by_cases e1 : f = g
  · rw [if_pos e1, ← e1]
    by_cases e2 : f = h
    · rw [if_pos e2, ← e2]; cases M.sem f a <;> simp
    · rw [if_neg e2]; cases M.sem f a <;> simp
  · rw [if_neg e1]
    by_cases e2 : f = h
    · rw [if_pos e2, ← e2]; cases M.sem f a <;> simp
    · rw [if_neg e2]

/-- The answer is there already. -/
theorem Ret.there {p : Nat} {M : Mgr} {L : Lay} {w : World} (R : Rep w p M L) {k : Nat} (hk : k ≤ M.n) {F : (Nat → Bool) → Bool} (hF : M.Reads (M.n - k) F) {r : Nat} (hr : M.stored r) (e : ∀ a, M.sem r a = F a) :
    Ret p L w (Mgr.build k M F).1 (.int .i64 (Mgr.build k M F).2) (.returned (.int .i64 r)) w := by
  rw [Mgr.build_there k M R.wf hk F hF r hr e]
  exact ⟨L, rfl, R, Kp.refl _ _, fun _ h => .inl h⟩

theorem Ret.no {p : Nat} {L : Lay} {w w1 w2 : World} {M' : Mgr} {v : Value} {e : Ending} (h : Ret p L w M' v e w1) (k : Kp No w1 w2) : Ret p L w M' v e w2 := by
  obtain ⟨L', he, r, kp, fr⟩ := h
  exact ⟨L', he, r.no k, kp.trans_no k, fr⟩

abbrev boxT (a b c : Int) : Obj := .cells #[.int .i64 a, .int .i64 b, .int .i64 c] 170 (0, 0)

theorem len_map {P : Program} {w : World} {b : Nat} {es : Array MapEntry} {clock : Nat} (h : w.heap[b]? = some (.map es clock)) {t kt et : TypeId} (ht : P.underlying t = some (.map kt et)) (u : TypeId) :
    (Builtin.len_ #[t] u #[.map (some b)]).run P w = .ok (.int .i64 (es.size : Int)) w := by
  simp [Builtin.len_, run_underlying ht, MapKept.run_getObj_map h, goInt]

theorem setCell_alloc_comm {w : World} {p i : Nat} {v : Value} {o : Obj} (h : p < w.heap.size) : (w.alloc o).setCell ⟨p, i, none⟩ v = (w.setCell ⟨p, i, none⟩ v).alloc o := by
  unfold World.setCell World.alloc
  congr 1
  apply Array.ext_getElem?
  intro k
  simp only [Array.getElem?_modify, Array.getElem?_push, Array.size_modify]
  by_cases e : p = k
  · subst e
    rw [if_pos rfl, if_neg (by omega), if_neg (by omega), if_pos rfl]
  · rw [if_neg e]
    split
    · rfl
    · rfl

def Sx (w0 : World) (p : Nat) (L0 : Lay) (B : Nat) (bx : Obj) (M : Mgr) (x : World) : Prop := ∃ L4, St w0 p L0 B bx x M L4

/-- The end of 'ite': the answer is remembered. -/
theorem ite_fin {w0 : World} {p : Nat} {L0 L : Lay} {B : Nat} {bx : Obj} {w w' : World} {M : Mgr} {F F' : Trip → Option Nat} {f g h r : Nat} (s : St w0 p L0 B bx w M L)
    (raw : Raw w p L M.order M.level M.nodes M.shown M.free M.uq F) (snd : M.Sound F) (hm : MapAs w' L.bm tripV natV F') (hk : Kp (fun x => x = L.bm) w w')
    (hF : F' = fun x => if x = ((f : Int), (g : Int), (h : Int)) then some r else F x) (sf : M.stored f) (sg : M.stored g) (sh : M.stored h) (sr : M.stored r) (e : ∀ a, M.sem r a = iteF M f g h a) :
    Ret p L0 w0 M (.int .i64 r) (.returned (.int .i64 r)) w' := by
  refine ⟨L, rfl, ⟨⟨F', raw.updMemo hm hk, ?_⟩, s.rep.wf⟩, s.kp.trans s.fr (hk.mono (fun k _ e => .inr (.inr (.inl e)))), s.fr⟩
  intro x y hy
  rw [hF] at hy
  simp only at hy
  split at hy
  · rename_i hx
    cases hy
    exact ⟨f, g, h, hx, sf, sg, sh, sr, e⟩
  · exact snd x y hy

set_option maxRecDepth 100000 in
set_option maxHeartbeats 2000000 in
theorem ite_step {k : Nat}
    (ih : ∀ (p : Nat) (M : Mgr) (L : Lay) (f g h : Nat) (w : World) (j : Nat), j < k → Rep w p M L → M.stored f → M.stored g → M.stored h → j ≤ M.n → M.n - j ≤ M.depth f → M.n - j ≤ M.depth g → M.n - j ≤ M.depth h →
      (Mgr.build j M (iteF M f g h)).1.nodes.length ≤ big →
      Calls Tryz.prog 62 #[ptr p, .int .i64 f, .int .i64 g, .int .i64 h] w (Ret p L w (Mgr.build j M (iteF M f g h)).1 (.int .i64 (Mgr.build j M (iteF M f g h)).2)))
    {p : Nat} {M : Mgr} {L : Lay} (f g h : Nat) {w : World} (R : Rep w p M L) (hf : M.stored f) (hg : M.stored g) (hh : M.stored h) (hk : k ≤ M.n) (df : M.n - k ≤ M.depth f) (dg : M.n - k ≤ M.depth g) (dh : M.n - k ≤ M.depth h)
    (hb : (Mgr.build k M (iteF M f g h)).1.nodes.length ≤ big) :
    Calls Tryz.prog 62 #[ptr p, .int .i64 f, .int .i64 g, .int .i64 h] w (Ret p L w (Mgr.build k M (iteF M f g h)).1 (.int .i64 (Mgr.build k M (iteF M f g h)).2)) := by
  have IH := Lib.hid ih
  clear ih
  have hF := iteF_reads R.wf hf hg hh df dg dh
  -- g and h behind the first two tests
  obtain ⟨g1, hg1⟩ : ∃ g1, g1 = if f = g then 1 else g := ⟨_, rfl⟩
  obtain ⟨h1, hh1⟩ : ∃ h1, h1 = if f = h then 0 else h := ⟨_, rfl⟩
  have sg1 : M.stored g1 := by rw [hg1]; split; exact .inl (by omega); exact hg
  have sh1 : M.stored h1 := by rw [hh1]; split; exact .inl (by omega); exact hh
  have dg1 : M.n - k ≤ M.depth g1 := by
    rw [hg1]; split
    · rw [M.depth_const (by omega)]; omega
    · exact dg
  have dh1 : M.n - k ≤ M.depth h1 := by
    rw [hh1]; split
    · rw [M.depth_const (by omega)]; omega
    · exact dh
  have eF : iteF M f g1 h1 = iteF M f g h := by rw [hg1, hh1]; exact iteF_norm M f g h
  have rF : M.Reads (M.n - k) (iteF M f g1 h1) := by rw [eF]; exact hF
  have THERE : Hid (∀ r, M.stored r → (∀ a, M.sem r a = iteF M f g1 h1 a) → Ret p L w (Mgr.build k M (iteF M f g h)).1 (.int .i64 (Mgr.build k M (iteF M f g h)).2) (.returned (.int .i64 r)) w) := fun r hr e => by
    rw [← eF]; exact Ret.there R hk rF hr e
  have HG1 := Lib.hid hg1
  have HH1 := Lib.hid hh1
  have EF := Lib.hid eF
  have HR := Lib.hid R
  have HF := Lib.hid hF
  have HB := Lib.hid hb
  have SF := Lib.hid hf
  have SG1 := Lib.hid sg1
  have SH1 := Lib.hid sh1
  clear hg1 hh1 eF rF R hF hb hg hh dg dh hf sg1 sh1
  go_enter Tryz.func62, Tryz.ntmps62
  go_upto_if 24 with (fail)
  go_cut [2] (fun s2 x => s2 = .int .i64 (g1 : Int) ∧ x = w)
  case first =>
    by_cases e : f = g
    · have b : ((f : Int) == (g : Int)) = true := by simp [e]
      have e1 : g1 = 1 := by rw [HG1.out, if_pos e]
      have E1 := Lib.hid e1
      clear e1 e
      go_wp2
      go_meet
      case rel => exact ⟨by rw [E1.out]; rfl, rfl⟩
    · have b : ((f : Int) == (g : Int)) = false := by simp; omega
      have e1 : g1 = g := by rw [HG1.out, if_neg e]
      have E1 := Lib.hid e1
      clear e1 e
      go_wp2
      go_meet
      case rel => exact ⟨by rw [E1.out], rfl⟩
  case rest =>
  obtain ⟨hs, hw⟩ := hcut
  replace hw := hw.symm
  subst hs hw
  go_upto_if 27 with (fail)
  go_cut [3] (fun s3 x => s3 = .int .i64 (h1 : Int) ∧ x = w)
  case first =>
    by_cases e : f = h
    · have b : ((f : Int) == (h : Int)) = true := by simp [e]
      have e1 : h1 = 0 := by rw [HH1.out, if_pos e]
      have E1 := Lib.hid e1
      clear e1 e
      go_wp2
      go_meet
      case rel => exact ⟨by rw [E1.out]; rfl, rfl⟩
    · have b : ((f : Int) == (h : Int)) = false := by simp; omega
      have e1 : h1 = h := by rw [HH1.out, if_neg e]
      have E1 := Lib.hid e1
      clear e1 e
      go_wp2
      go_meet
      case rel => exact ⟨by rw [E1.out], rfl⟩
  case rest =>
  obtain ⟨hs, hw⟩ := hcut
  replace hw := hw.symm
  subst hs hw
  clear HG1 HH1
  go_upto_block 0 with (fail)
  go_cut [1, 2, 3] (fun s1 s2 s3 x => Sw M f g h k w s1 s2 s3 x)
  case first =>
    by_cases e1 : f = 1
    · have b1 : ((f : Int) == 1) = true := by simp [e1]
      have RET := Lib.hid (THERE.out g1 SG1.out (fun a => by simp [iteF, e1]))
      clear e1
      go_wp2
      go_ret
      exact RET.out
    · have b1 : ((f : Int) == 1) = false := by simp; omega
      by_cases e0 : f = 0
      · have b0 : ((f : Int) == 0) = true := by simp [e0]
        have RET := Lib.hid (THERE.out h1 SH1.out (fun a => by simp [iteF, e0]))
        clear e0 e1
        go_wp2
        go_ret
        exact RET.out
      · have b0 : ((f : Int) == 0) = false := by simp; omega
        have f2 : 2 ≤ f := by omega
        by_cases e2 : g1 = h1
        · have b2 : ((g1 : Int) == (h1 : Int)) = true := by simp [e2]
          have RET := Lib.hid (THERE.out g1 SG1.out (fun a => by simp [iteF, e2]))
          clear e0 e1 e2
          go_wp2
          go_ret
          exact RET.out
        · have b2 : ((g1 : Int) == (h1 : Int)) = false := by simp; omega
          by_cases eg : g1 = 1
          · have bg : ((g1 : Int) == 1) = true := by simp [eg]
            by_cases eh : h1 = 0
            · have bh : ((h1 : Int) == 0) = true := by simp [eh]
              have RET := Lib.hid (THERE.out f SF.out (fun a => by simp [iteF, eg, eh]))
              clear e0 e1 e2 eg eh
              go_wp2
              go_ret
              exact RET.out
            · have bh : ((h1 : Int) == 0) = false := by simp; omega
              by_cases el : h1 < f
              · have bl : decide ((h1 : Int) < (f : Int)) = true := by simp; omega
                have bl2 : (h1 : Int) < (f : Int) := by omega
                have SW : Hid (Sw M f g h k w (.int .i64 h1) (.int .i64 g1) (.int .i64 f) w) := ⟨h1, g1, f, ⟨SH1.out, SG1.out, SF.out, by omega, by rw [← EF.out]; funext a; simp [iteF, eg, Bool.or_comm], dh1, dg1, df⟩, rfl, rfl, rfl, rfl⟩
                clear e0 e1 e2 eg eh el
                go_wp2
                go_meet
                case rel => exact SW.out
              · have bl : decide ((h1 : Int) < (f : Int)) = false := by simp; omega
                have bl2 : ¬ (h1 : Int) < (f : Int) := by omega
                have SW : Hid (Sw M f g h k w (.int .i64 f) (.int .i64 g1) (.int .i64 h1) w) := ⟨f, g1, h1, ⟨SF.out, SG1.out, SH1.out, f2, EF.out, df, dg1, dh1⟩, rfl, rfl, rfl, rfl⟩
                clear e0 e1 e2 eg eh el
                go_wp2
                go_meet
                case rel => exact SW.out
          · have bg : ((g1 : Int) == 1) = false := by simp; omega
            by_cases eh : h1 = 0
            · have bh : ((h1 : Int) == 0) = true := by simp [eh]
              by_cases el : g1 < f
              · have bl : decide ((g1 : Int) < (f : Int)) = true := by simp; omega
                have bl2 : (g1 : Int) < (f : Int) := by omega
                have SW : Hid (Sw M f g h k w (.int .i64 g1) (.int .i64 f) (.int .i64 h1) w) := ⟨g1, f, h1, ⟨SG1.out, SF.out, SH1.out, by omega, by rw [← EF.out]; funext a; simp [iteF, eh, Bool.and_comm], dg1, df, dh1⟩, rfl, rfl, rfl, rfl⟩
                clear e0 e1 e2 eg eh el
                go_wp2
                go_meet
                case rel => exact SW.out
              · have bl : decide ((g1 : Int) < (f : Int)) = false := by simp; omega
                have bl2 : ¬ (g1 : Int) < (f : Int) := by omega
                have SW : Hid (Sw M f g h k w (.int .i64 f) (.int .i64 g1) (.int .i64 h1) w) := ⟨f, g1, h1, ⟨SF.out, SG1.out, SH1.out, f2, EF.out, df, dg1, dh1⟩, rfl, rfl, rfl, rfl⟩
                clear e0 e1 e2 eg eh el
                go_wp2
                go_meet
                case rel => exact SW.out
            · have bh : ((h1 : Int) == 0) = false := by simp; omega
              have SW : Hid (Sw M f g h k w (.int .i64 f) (.int .i64 g1) (.int .i64 h1) w) := ⟨f, g1, h1, ⟨SF.out, SG1.out, SH1.out, f2, EF.out, df, dg1, dh1⟩, rfl, rfl, rfl, rfl⟩
              clear e0 e1 e2 eg eh
              go_wp2
              go_meet
              case rel => exact SW.out
  case rest =>
  obtain ⟨f2, g2, h2, nrm, hs1, hs2, hs3, hw⟩ := hcut
  replace hw := hw.symm
  subst hs1 hs2 hs3 hw
  obtain ⟨sf, sg, sh, two, eq2, df2, dg2, dh2⟩ := nrm
  have R := HR.out
  obtain ⟨F, raw, snd⟩ := R.raw
  have c6 := raw.c6
  have plt := raw.plt
  have EQ2 := Lib.hid eq2
  have hl2 : ∀ n, (Instr.lookup 107 (.map (some L.bm)) (.agg #[.int .i64 f2, .int .i64 g2, .int .i64 h2]) true).run Tryz.prog ((w.alloc (boxT f2 g2 h2)).drewN n) = .ok (.tuple #[(((F ((f2 : Int), (g2 : Int), (h2 : Int))).map natV).getD (.int .i64 0)), .bool (F ((f2 : Int), (g2 : Int), (h2 : Int))).isSome]) ((w.alloc (boxT f2 g2 h2)).drewN n) := fun n =>
    (raw.memo.kp (Kp.trans_no (Kp.alloc (boxT f2 g2 h2)) (Kp.drewN n)) (fun x => x)).lookup keyTriple Tryz.underlying107 zeroRef ((f2 : Int), (g2 : Int), (h2 : Int)) true
  cases hFx : F ((f2 : Int), (g2 : Int), (h2 : Int)) with
  | some r =>
    obtain ⟨x1, x2, x3, hx, _, _, _, sr, hsem⟩ := snd _ r hFx
    simp only [Prod.mk.injEq, Int.natCast_inj] at hx
    obtain ⟨rfl, rfl, rfl⟩ := hx
    have RET := Lib.hid (THERE.out r sr (fun a => by rw [EF.out, ← eq2]; exact hsem a))
    rw [hFx] at hl2
    simp only [Option.map_some, Option.getD_some, Option.isSome_some, natV] at hl2
    clear raw snd hFx hsem R eq2 sf sg sh sr
    generalize L.bm = bm at *
    go_wp2
    go_quiet (fail)
    go_wp2
    go_ret
    exact (RET.out).no ((Kp.alloc _).trans_no (Kp.drewN _))
  | none =>
    rw [hFx] at hl2
    simp only [Option.map_none, Option.getD_none, Option.isSome_none] at hl2
    obtain ⟨i, j, A, B, pl⟩ := plan R.wf sf sg sh two hk df2 dg2 dh2
    have FQ : Mgr.build k M (iteF M f g h) = B.1.put (M.ord i) A.2 B.2 := by rw [← EQ2.out]; exact pl.fin
    have hb2 : (B.1.put (M.ord i) A.2 B.2).1.nodes.length ≤ big := by rw [← FQ]; exact HB.out
    have FIN : Hid (Mgr.build k M (iteF M f g h) = B.1.put (M.ord i) A.2 B.2) := FQ
    have PL := Lib.hid pl
    have WF := Lib.hid R.wf
    have HB2 := Lib.hid hb2
    have st0 := Lib.hid (St.start R (boxT f2 g2 h2))
    clear FQ raw snd hFx R eq2 HB HR THERE EF SF SG1 SH1 HF df dg1 dh1 pl hb2
    generalize L.bm = bm at *
    go_wp2
    go_quiet (fail)
    go_wp2
    have s1 : St w p L w.heap.size (boxT f2 g2 h2) ((w.alloc (Obj.cells #[.int .i64 f2, .int .i64 g2, .int .i64 h2] 170)).drewN nq) M L := st0.out.no (Kp.drewN nq)
    clear hl2 st0 c6
    generalize ((w.alloc (Obj.cells #[.int .i64 f2, .int .i64 g2, .int .i64 h2] 170)).drewN nq) = W1 at *
    obtain ⟨F1, raw1, snd1⟩ := s1.rep.raw
    have S1 := Lib.hid s1
    obtain ⟨bo, co, hso, hc1, hc2, hoi⟩ := ownsRow_nats raw1.order i PL.out.hi
    have c0 := raw1.c0
    rw [hso] at c0
    unfold natV at hoi
    have mn := PL.out.min
    have hin : (i : Int) < M.order.length := by have := PL.out.hi; unfold Mgr.n at this; omega
    have hm := maxLen_val
    have hle : M.order.length ≤ 9223372036854775807 := by omega
    clear raw1 snd1 hso hc1 hc2 hm s1
    rw [show M.order.getD i 0 = M.ord i from rfl] at hoi
    generalize M.order.length = nO at *
    go_quiet ((go_at_call 96; exact Calls.quiet_of (depth_I _ (S1.out.rep.no (Kp.drewN _)) (by assumption))))
    have s2 := S1.out.no (Kp.drewN nq)
    clear S1 c0 hoi mn hin
    generalize W1.drewN nq = W2 at *
    go_wp2_with fail
    refine (split_ok f2 (M.ord i) s2.rep sf).mono ?_
    rintro e w1 ⟨rfl, hk1⟩
    have s3 := s2.no hk1
    clear s2 hk1
    go_wp2_with fail
    refine (split_ok g2 (M.ord i) s3.rep sg).mono ?_
    rintro e w2 ⟨rfl, hk1⟩
    have s4 := s3.no hk1
    clear s3 hk1
    go_wp2_with fail
    refine (split_ok h2 (M.ord i) s4.rep sh).mono ?_
    rintro e w3 ⟨rfl, hk1⟩
    have s5 := s4.no hk1
    clear s4 hk1
    have bA : A.1.nodes.length ≤ big := Nat.le_trans PL.out.lA HB2.out
    have bB : B.1.nodes.length ≤ big := Nat.le_trans PL.out.lB HB2.out
    have BA := Lib.hid bA
    have BB := Lib.hid bB
    clear bA bB
    go_wp2_with fail
    refine (IH.out p M L _ _ _ w3 j PL.out.hj s5.rep PL.out.pf.1 PL.out.pg.1 PL.out.ph.1 PL.out.jn PL.out.pf.2.2.1 PL.out.pg.2.2.1 PL.out.ph.2.2.1 (by rw [← PL.out.eA]; exact BA.out)).mono ?_
    intro e w4 hret
    rw [← PL.out.eA] at hret
    obtain ⟨rfl, L1, s6⟩ := s5.step hret
    clear hret s5
    go_wp2_with fail
    refine (IH.out p A.1 L1 _ _ _ w4 j PL.out.hj s6.rep (PL.out.sA.ext.stored PL.out.pf.2.1) (PL.out.sA.ext.stored PL.out.pg.2.1) (PL.out.sA.ext.stored PL.out.ph.2.1) (by rw [PL.out.sA.ext.n]; exact PL.out.jn)
      (by rw [PL.out.sA.ext.n, PL.out.sA.ext.depth PL.out.pf.2.1]; exact PL.out.pf.2.2.2) (by rw [PL.out.sA.ext.n, PL.out.sA.ext.depth PL.out.pg.2.1]; exact PL.out.pg.2.2.2) (by rw [PL.out.sA.ext.n, PL.out.sA.ext.depth PL.out.ph.2.1]; exact PL.out.ph.2.2.2)
      (by rw [← PL.out.eB]; exact BB.out)).mono ?_
    intro e w5 hret
    rw [← PL.out.eB] at hret
    obtain ⟨rfl, L2, s7⟩ := s6.step hret
    clear hret s6
    go_wp2_with fail
    refine (node_ok (M.ord i) A.2 B.2 s7.rep PL.out.v (PL.out.sB.ext.stored PL.out.sA.st) PL.out.sB.st PL.out.dA PL.out.dB HB2.out).mono ?_
    intro e w6 hret
    obtain ⟨rfl, L3, s8⟩ := s7.step hret
    clear hret s7
    have sf3 := PL.out.ext.stored sf
    have sg3 := PL.out.ext.stored sg
    have sh3 := PL.out.ext.stored sh
    have sr3 := PL.out.st
    have se3 : ∀ a, (B.1.put (M.ord i) A.2 B.2).1.sem (B.1.put (M.ord i) A.2 B.2).2 a = iteF (B.1.put (M.ord i) A.2 B.2).1 f2 g2 h2 a := fun a => by
      rw [PL.out.sem]; unfold iteF; rw [PL.out.ext.sem WF.out sf, PL.out.ext.sem WF.out sg, PL.out.ext.sem WF.out sh]
    have SE3 := Lib.hid se3
    clear se3 PL HB2 BA BB IH sf sg sh two df2 dg2 dh2 WF
    generalize B.1.put (M.ord i) A.2 B.2 = Pt at *
    obtain ⟨F8, raw8, snd8⟩ := s8.rep.raw
    obtain ⟨es, clock, hes, hrest⟩ := raw8.memo
    have c6 := raw8.c6
    have S8 := Lib.hid s8
    have p8 := raw8.plt
    have z6 := raw8.fz 6
    have hbm := heap_lt hes
    have FIN' := FIN
    clear hrest s8 FIN
    have R8 := Lib.hid raw8
    have SN8 := Lib.hid snd8
    clear raw8 snd8
    have hmm := @run_makeMap Tryz.prog
    have hlen : (Builtin.len_ #[107] 3 #[.map (some L3.bm)]).run Tryz.prog w6 = .ok (.int .i64 (es.size : Int)) w6 := len_map hes Tryz.underlying107 _
    generalize (es.size : Int) = z at hlen
    clear hes
    go_upto_if 141 with (fail)
    go_cut [] (fun x => Sx w p L w.heap.size (boxT f2 g2 h2) Pt.1 x)
    case first =>
      by_cases hsz : 1048576 ≤ z
      · go_wp2
        go_meet
        case rel =>
          rw [← setCell_alloc_comm p8]
          refine ⟨{ L3 with bm := w6.heap.size }, ⟨⟨fun _ => none, (R8.out.no (Kp.alloc _)).setMemo (MapAs.empty w6 tripV natV) (fun e => by have := R8.out.uniq.lt; omega), fun x r h => by cases h⟩, S8.out.rep.wf⟩, ?_, ?_, ?_, S8.out.bh, ?_⟩
          · exact (S8.out.kp.trans_no (Kp.alloc _)).trans (A' := L3.at p) S8.out.fr ((Kp.setCell _ _).mono (fun k _ e => .inl e))
          · intro k hk
            rcases hk with h | h | h | h
            · exact S8.out.fr k (.inl h)
            · exact S8.out.fr k (.inr (.inl h))
            · right; have := S8.out.kp.size; simp at h; omega
            · exact S8.out.fr k (.inr (.inr (.inr h)))
          · rw [Below.heap_setCell _ _ _ _ (fun e => S8.out.bn (.inl e)), Below.heap_alloc _ _ _ (heap_lt S8.out.box)]; exact S8.out.box
          · intro h
            rcases h with h | h | h | h
            · exact S8.out.bn (.inl h)
            · exact S8.out.bn (.inr (.inl h))
            · have := heap_lt S8.out.box; simp at h; omega
            · exact S8.out.bn (.inr (.inr (.inr h)))
      · go_wp2
        go_meet
        case rel => exact ⟨L3, S8.out⟩
    case rest =>
    obtain ⟨L4, s9⟩ := hcut
    clear c6 z6 hmm hlen hbm p8 S8 R8 SN8
    obtain ⟨F9, raw9, snd9⟩ := s9.rep.raw
    have c6 := raw9.c6
    obtain ⟨w7, hupd, hmap, hk7, _⟩ := raw9.memo.update keyTriple Tryz.underlying107 ((f2 : Int), (g2 : Int), (h2 : Int)) Pt.2
    have up : (Instr.mapUpdate 107 (.map (some L4.bm)) (.agg #[.int .i64 f2, .int .i64 g2, .int .i64 h2]) (.int .i64 Pt.2)).run Tryz.prog wc.drew = .ok () w7.drew := hupd 1
    have RET := Lib.hid ((ite_fin s9 raw9 snd9 hmap hk7 rfl sf3 sg3 sh3 sr3 SE3.out).no Kp.drew)
    have e0 : wc.cell? ⟨w.heap.size, 0, none⟩ = some (.int .i64 f2) := by simp [World.cell?, s9.box]
    have e1 : wc.cell? ⟨w.heap.size, 1, none⟩ = some (.int .i64 g2) := by simp [World.cell?, s9.box]
    have e2 : wc.cell? ⟨w.heap.size, 2, none⟩ = some (.int .i64 h2) := by simp [World.cell?, s9.box]
    clear hupd hmap hk7 raw9 snd9 s9 SE3 sf3 sg3 sh3 sr3
    generalize L4.bm = bm4 at *
    go_wp2
    go_region
    go_wp2
    go_ret
    rw [FIN'.out]
    exact RET.out

/-- The contract of 'ite', at the levels that are left. -/
theorem ite_at (k : Nat) : ∀ (p : Nat) (M : Mgr) (L : Lay) (f g h : Nat) (w : World), Rep w p M L → M.stored f → M.stored g → M.stored h → k ≤ M.n → M.n - k ≤ M.depth f → M.n - k ≤ M.depth g → M.n - k ≤ M.depth h →
    (Mgr.build k M (iteF M f g h)).1.nodes.length ≤ big →
    Calls Tryz.prog 62 #[ptr p, .int .i64 f, .int .i64 g, .int .i64 h] w (Ret p L w (Mgr.build k M (iteF M f g h)).1 (.int .i64 (Mgr.build k M (iteF M f g h)).2)) := by
  induction k using Nat.strongRecOn with
  | _ k ih =>
    intro p M L f g h w R sf sg sh hk df dg dh hb
    exact ite_step (fun p M L f g h w j hj R sf sg sh hk df dg dh hb => ih j hj p M L f g h w R sf sg sh hk df dg dh hb) f g h R sf sg sh hk df dg dh hb

/-- The contract of 'ite'. -/
theorem ite_ok {p : Nat} {M : Mgr} {L : Lay} (f g h : Nat) {w : World} (R : Rep w p M L) (sf : M.stored f) (sg : M.stored g) (sh : M.stored h) (hb : (Mgr.build M.n M (iteF M f g h)).1.nodes.length ≤ big) :
    Calls Tryz.prog 62 #[ptr p, .int .i64 f, .int .i64 g, .int .i64 h] w (Ret p L w (Mgr.build M.n M (iteF M f g h)).1 (.int .i64 (Mgr.build M.n M (iteF M f g h)).2)) :=
  ite_at M.n p M L f g h w R sf sg sh (Nat.le_refl _) (by omega) (by omega) (by omega) hb

end Go.Proofs.YtdgnbbmgcgfibaaGreatDoor

namespace Go.Proofs.YtdgnbbmgcgfibaaGreatDoor
open Go.RowKit

namespace Mgr
def iteM (M : Mgr) (f g h : Int) : Mgr × Int :=
  if M.valid f = true ∧ M.valid g = true ∧ M.valid h = true then
    let b := build M.n M (iteF M f.toNat g.toNat h.toNat)
    (b.1.show b.2, (b.2 : Int))
  else (M, -1)
def notM (M : Mgr) (f : Int) : Mgr × Int := M.iteM f 0 1
def andM (M : Mgr) (f g : Int) : Mgr × Int := M.iteM f g 0
def orM (M : Mgr) (f g : Int) : Mgr × Int := M.iteM f 1 g
def xorM (M : Mgr) (f g : Int) : Mgr × Int :=
  if M.valid f = true ∧ M.valid g = true then
    let b := build M.n M (iteF M g.toNat 0 1)
    let c := build M.n b.1 (iteF b.1 f.toNat b.2 g.toNat)
    (c.1.show c.2, (c.2 : Int))
  else (M, -1)
def varM (M : Mgr) (v : Int) : Mgr × Int :=
  if 0 ≤ v ∧ v < M.n then
    let b := M.put v.toNat 0 1
    (b.1.show b.2, (b.2 : Int))
  else (M, -1)

theorem valid_nat {M : Mgr} (h : M.WF) {f : Int} (hf : M.valid f = true) : ∃ n : Nat, f = (n : Int) ∧ M.stored n ∧ M.vis n = true := by
  unfold valid at hf
  simp only [Bool.and_eq_true, decide_eq_true_eq] at hf
  refine ⟨f.toNat, by omega, h.shst _ hf.2, hf.2⟩

theorem lev_lt_const {M : Mgr} (h : M.WF) {v f : Nat} (hv : v < M.n) (hf : f < 2) : M.lev v < M.depth f := by
  rw [M.depth_const hf]; exact (h.ol v hv).1
end Mgr

theorem Ret.same {p : Nat} {M : Mgr} {L : Lay} {w : World} {v : Value} (R : Rep w p M L) : Ret p L w M v (.returned v) w := ⟨L, rfl, R, Kp.refl _ _, fun _ h => .inl h⟩

/-- A state on the way. -/
structure Sd (w0 : World) (p : Nat) (L0 : Lay) (w : World) (M : Mgr) (L : Lay) : Prop where
  rep : Rep w p M L
  kp : Kp (L0.at p) w0 w
  fr : Fresh (L0.at p) (L.at p) w0
theorem Sd.start {w : World} {p : Nat} {M : Mgr} {L : Lay} (R : Rep w p M L) : Sd w p L w M L := ⟨R, Kp.refl _ _, fun _ h => .inl h⟩
theorem Sd.no {w0 : World} {p : Nat} {L0 : Lay} {w w' : World} {M : Mgr} {L : Lay} (s : Sd w0 p L0 w M L) (h : Kp No w w') : Sd w0 p L0 w' M L := ⟨s.rep.no h, s.kp.trans_no h, s.fr⟩
theorem Sd.step {w0 : World} {p : Nat} {L0 : Lay} {w w' : World} {M M' : Mgr} {L : Lay} {v : Value} {e : Ending} (s : Sd w0 p L0 w M L) (h : Ret p L w M' v e w') : e = .returned v ∧ ∃ L', Sd w0 p L0 w' M' L' := by
  obtain ⟨L', he, r, k, f⟩ := h
  refine ⟨he, L', r, s.kp.trans s.fr k, fun x hx => ?_⟩
  rcases f x hx with h1 | h1
  · exact s.fr x h1
  · right; have := s.kp.size; omega
theorem Sd.ret {w0 : World} {p : Nat} {L0 : Lay} {w : World} {M : Mgr} {L : Lay} (s : Sd w0 p L0 w M L) (v : Value) : Ret p L0 w0 M v (.returned v) w := ⟨L, rfl, s.rep, s.kp, s.fr⟩

set_option maxHeartbeats 400000 in
theorem Ite_ok {p : Nat} {M : Mgr} {L : Lay} (f g h : Int) {w : World} (R : Rep w p M L) (hb : (M.iteM f g h).1.nodes.length ≤ big) :
    Calls Tryz.prog 30 #[ptr p, .int .i64 f, .int .i64 g, .int .i64 h] w (Ret p L w (M.iteM f g h).1 (.int .i64 (M.iteM f g h).2)) := by
  by_cases hf : M.valid f = true
  · by_cases hg : M.valid g = true
    · by_cases hh : M.valid h = true
      · have e : M.iteM f g h = _ := if_pos ⟨hf, hg, hh⟩
        obtain ⟨f, rfl, sf, _⟩ := Mgr.valid_nat R.wf hf
        obtain ⟨g, rfl, sg, _⟩ := Mgr.valid_nat R.wf hg
        obtain ⟨h, rfl, sh, _⟩ := Mgr.valid_nat R.wf hh
        rw [e] at hb ⊢
        simp only [Int.toNat_natCast] at hb ⊢
        have sp := Mgr.build_spec M.n M R.wf (Nat.le_refl _) _ (iteF_reads R.wf sf sg sh (by omega) (by omega) (by omega))
        have hc := ite_ok f g h R sf sg sh hb
        generalize Mgr.build M.n M (iteF M f g h) = b at *
        have HC := Lib.hid hc
        have HS := Lib.hid sp.st
        have SF := Lib.hid hf
        have SG := Lib.hid hg
        have SH := Lib.hid hh
        clear hc hb e sp hf hg hh
        go_enter Tryz.func30, Tryz.ntmps30
        go_wp2_with fail
        refine (valid_as _ true R SF.out).mono ?_
        rintro e w' ⟨rfl, rfl⟩
        go_wp2_with fail
        refine (valid_as _ true R SG.out).mono ?_
        rintro e w' ⟨rfl, rfl⟩
        go_wp2_with fail
        refine (valid_as _ true R SH.out).mono ?_
        rintro e w' ⟨rfl, rfl⟩
        go_wp2_with fail
        refine HC.out.mono ?_
        intro e w1 h1
        obtain ⟨rfl, L1, s1⟩ := (Sd.start R).step h1
        clear h1
        go_wp2_with fail
        refine (show_ok b.2 s1.rep HS.out).mono ?_
        intro e w2 h2
        obtain ⟨rfl, L2, s2⟩ := s1.step h2
        clear h2 s1
        go_wp2_with fail
        go_ret
        exact s2.ret _
      · have e : M.iteM f g h = (M, -1) := if_neg (fun x => hh x.2.2)
        rw [e]
        have SF := Lib.hid hf
        have SG := Lib.hid hg
        have SH : Hid (M.valid h = false) := Lib.hid (by simpa using hh)
        clear hf hg hh e hb
        go_enter Tryz.func30, Tryz.ntmps30
        go_wp2_with fail
        refine (valid_as _ true R SF.out).mono ?_
        rintro e w' ⟨rfl, rfl⟩
        go_wp2_with fail
        refine (valid_as _ true R SG.out).mono ?_
        rintro e w' ⟨rfl, rfl⟩
        go_wp2_with fail
        refine (valid_as _ false R SH.out).mono ?_
        rintro e w' ⟨rfl, rfl⟩
        go_wp2_with fail
        go_ret
        exact Ret.same R
    · have e : M.iteM f g h = (M, -1) := if_neg (fun x => hg x.2.1)
      rw [e]
      have SF := Lib.hid hf
      have SG : Hid (M.valid g = false) := Lib.hid (by simpa using hg)
      clear hf hg e hb
      go_enter Tryz.func30, Tryz.ntmps30
      go_wp2_with fail
      refine (valid_as _ true R SF.out).mono ?_
      rintro e w' ⟨rfl, rfl⟩
      go_wp2_with fail
      refine (valid_as _ false R SG.out).mono ?_
      rintro e w' ⟨rfl, rfl⟩
      go_wp2_with fail
      go_ret
      exact Ret.same R
  · have e : M.iteM f g h = (M, -1) := if_neg (fun x => hf x.1)
    rw [e]
    have SF : Hid (M.valid f = false) := Lib.hid (by simpa using hf)
    clear hf e hb
    go_enter Tryz.func30, Tryz.ntmps30
    go_wp2_with fail
    refine (valid_as _ false R SF.out).mono ?_
    rintro e w' ⟨rfl, rfl⟩
    go_wp2_with fail
    go_ret
    exact Ret.same R

set_option maxHeartbeats 400000 in
theorem Not_ok {p : Nat} {M : Mgr} {L : Lay} (f : Int) {w : World} (R : Rep w p M L) (hb : (M.notM f).1.nodes.length ≤ big) :
    Calls Tryz.prog 16 #[ptr p, .int .i64 f] w (Ret p L w (M.notM f).1 (.int .i64 (M.notM f).2)) := by
  have hc := Lib.hid (Ite_ok f 0 1 R hb)
  clear hb
  go_enter Tryz.func16, Tryz.ntmps16
  go_wp2_with fail
  refine hc.out.mono ?_
  intro e w1 h1
  obtain ⟨rfl, L1, s1⟩ := (Sd.start R).step h1
  clear h1
  go_wp2_with fail
  go_ret
  exact s1.ret _

set_option maxHeartbeats 400000 in
theorem And_ok {p : Nat} {M : Mgr} {L : Lay} (f g : Int) {w : World} (R : Rep w p M L) (hb : (M.andM f g).1.nodes.length ≤ big) :
    Calls Tryz.prog 17 #[ptr p, .int .i64 f, .int .i64 g] w (Ret p L w (M.andM f g).1 (.int .i64 (M.andM f g).2)) := by
  have hc := Lib.hid (Ite_ok f g 0 R hb)
  clear hb
  go_enter Tryz.func17, Tryz.ntmps17
  go_wp2_with fail
  refine hc.out.mono ?_
  intro e w1 h1
  obtain ⟨rfl, L1, s1⟩ := (Sd.start R).step h1
  clear h1
  go_wp2_with fail
  go_ret
  exact s1.ret _

set_option maxHeartbeats 400000 in
theorem Or_ok {p : Nat} {M : Mgr} {L : Lay} (f g : Int) {w : World} (R : Rep w p M L) (hb : (M.orM f g).1.nodes.length ≤ big) :
    Calls Tryz.prog 15 #[ptr p, .int .i64 f, .int .i64 g] w (Ret p L w (M.orM f g).1 (.int .i64 (M.orM f g).2)) := by
  have hc := Lib.hid (Ite_ok f 1 g R hb)
  clear hb
  go_enter Tryz.func15, Tryz.ntmps15
  go_wp2_with fail
  refine hc.out.mono ?_
  intro e w1 h1
  obtain ⟨rfl, L1, s1⟩ := (Sd.start R).step h1
  clear h1
  go_wp2_with fail
  go_ret
  exact s1.ret _

set_option maxHeartbeats 400000 in
theorem Xor_ok {p : Nat} {M : Mgr} {L : Lay} (f g : Int) {w : World} (R : Rep w p M L) (hb : (M.xorM f g).1.nodes.length ≤ big) :
    Calls Tryz.prog 95 #[ptr p, .int .i64 f, .int .i64 g] w (Ret p L w (M.xorM f g).1 (.int .i64 (M.xorM f g).2)) := by
  by_cases hf : M.valid f = true
  · by_cases hg : M.valid g = true
    · have e : M.xorM f g = _ := if_pos ⟨hf, hg⟩
      obtain ⟨f, rfl, sf, _⟩ := Mgr.valid_nat R.wf hf
      obtain ⟨g, rfl, sg, _⟩ := Mgr.valid_nat R.wf hg
      rw [e] at hb ⊢
      simp only [Int.toNat_natCast] at hb ⊢
      have s0 : M.stored 0 := .inl (by omega)
      have s1 : M.stored 1 := .inl (by omega)
      have sp := Mgr.build_spec M.n M R.wf (Nat.le_refl _) _ (iteF_reads R.wf sg s0 s1 (by omega) (by omega) (by omega))
      have hc := fun hb => ite_ok g 0 1 R sg s0 s1 hb
      generalize Mgr.build M.n M (iteF M g 0 1) = b at *
      have sq := Mgr.build_spec M.n b.1 sp.wf (by rw [sp.ext.n]; omega) _ (iteF_reads sp.wf (sp.ext.stored sf) sp.st (sp.ext.stored sg) (by rw [sp.ext.n]; omega) (by rw [sp.ext.n]; omega) (by rw [sp.ext.n]; omega))
      have hd : ∀ (L1 : Lay) (w1 : World), Rep w1 p b.1 L1 → Calls Tryz.prog 62 #[ptr p, .int .i64 f, .int .i64 b.2, .int .i64 g] w1 (Ret p L1 w1 (Mgr.build M.n b.1 (iteF b.1 f b.2 g)).1 (.int .i64 (Mgr.build M.n b.1 (iteF b.1 f b.2 g)).2)) := fun L1 w1 R1 => by
        have := ite_ok f b.2 g R1 (sp.ext.stored sf) sp.st (sp.ext.stored sg)
        rw [sp.ext.n] at this
        exact this hb
      generalize Mgr.build M.n b.1 (iteF b.1 f b.2 g) = c at *
      have HC := Lib.hid (hc (Nat.le_trans sq.ext.len hb))
      have HD := Lib.hid hd
      have HS := Lib.hid sq.st
      have SF := Lib.hid hf
      have SG := Lib.hid hg
      clear hc hd hb e sp sq hf hg sf sg s0 s1
      go_enter Tryz.func95, Tryz.ntmps95
      go_wp2_with fail
      refine (valid_as _ true R SF.out).mono ?_
      rintro e w' ⟨rfl, rfl⟩
      go_wp2_with fail
      refine (valid_as _ true R SG.out).mono ?_
      rintro e w' ⟨rfl, rfl⟩
      go_wp2_with fail
      refine HC.out.mono ?_
      intro e w1 h1
      obtain ⟨rfl, L1, s1⟩ := (Sd.start R).step h1
      clear h1
      go_wp2_with fail
      refine (HD.out L1 w1 s1.rep).mono ?_
      intro e w2 h2
      obtain ⟨rfl, L2, s2⟩ := s1.step h2
      clear h2 s1
      go_wp2_with fail
      refine (show_ok c.2 s2.rep HS.out).mono ?_
      intro e w3 h3
      obtain ⟨rfl, L3, s3⟩ := s2.step h3
      clear h3 s2
      go_wp2_with fail
      go_ret
      exact s3.ret _
    · have e : M.xorM f g = (M, -1) := if_neg (fun x => hg x.2)
      rw [e]
      have SF := Lib.hid hf
      have SG : Hid (M.valid g = false) := Lib.hid (by simpa using hg)
      clear hf hg e hb
      go_enter Tryz.func95, Tryz.ntmps95
      go_wp2_with fail
      refine (valid_as _ true R SF.out).mono ?_
      rintro e w' ⟨rfl, rfl⟩
      go_wp2_with fail
      refine (valid_as _ false R SG.out).mono ?_
      rintro e w' ⟨rfl, rfl⟩
      go_wp2_with fail
      go_ret
      exact Ret.same R
  · have e : M.xorM f g = (M, -1) := if_neg (fun x => hf x.1)
    rw [e]
    have SF : Hid (M.valid f = false) := Lib.hid (by simpa using hf)
    clear hf e hb
    go_enter Tryz.func95, Tryz.ntmps95
    go_wp2_with fail
    refine (valid_as _ false R SF.out).mono ?_
    rintro e w' ⟨rfl, rfl⟩
    go_wp2_with fail
    go_ret
    exact Ret.same R

set_option maxHeartbeats 400000 in
theorem Var_ok {p : Nat} {M : Mgr} {L : Lay} (v : Int) {w : World} (R : Rep w p M L) (hb : (M.varM v).1.nodes.length ≤ big) :
    Calls Tryz.prog 18 #[ptr p, .int .i64 v] w (Ret p L w (M.varM v).1 (.int .i64 (M.varM v).2)) := by
  by_cases hv : 0 ≤ v ∧ v < M.n
  · have e : M.varM v = _ := if_pos hv
    obtain ⟨v, rfl⟩ := Int.eq_ofNat_of_zero_le hv.1
    rw [e] at hb ⊢
    simp only [Int.toNat_natCast] at hb ⊢
    have hvn : v < M.n := by omega
    have d0 := Mgr.lev_lt_const R.wf hvn (f := 0) (by omega)
    have d1 := Mgr.lev_lt_const R.wf hvn (f := 1) (by omega)
    have sp := Mgr.put_spec R.wf hvn (.inl (by omega)) (.inl (by omega)) d0 d1
    have hc := node_ok v 0 1 R hvn (.inl (by omega)) (.inl (by omega)) d0 d1 hb
    generalize M.put v 0 1 = b at *
    have HC := Lib.hid hc
    have HS := Lib.hid sp.st
    have HV := Lib.hid hv
    clear hc hb e sp hv d0 d1 hvn
    go_enter Tryz.func18, Tryz.ntmps18
    go_wp2_with fail
    refine (variable_as _ true R (by simpa using HV.out)).mono ?_
    rintro e w' ⟨rfl, rfl⟩
    go_wp2_with fail
    refine HC.out.mono ?_
    intro e w1 h1
    obtain ⟨rfl, L1, s1⟩ := (Sd.start R).step h1
    clear h1
    go_wp2_with fail
    refine (show_ok b.2 s1.rep HS.out).mono ?_
    intro e w2 h2
    obtain ⟨rfl, L2, s2⟩ := s1.step h2
    clear h2 s1
    go_wp2_with fail
    go_ret
    exact s2.ret _
  · have e : M.varM v = (M, -1) := if_neg hv
    rw [e]
    have HV : Hid (decide (0 ≤ v ∧ v < (M.n : Int)) = false) := Lib.hid (by simpa using hv)
    clear hv e hb
    go_enter Tryz.func18, Tryz.ntmps18
    go_wp2_with fail
    refine (variable_as _ false R HV.out).mono ?_
    rintro e w' ⟨rfl, rfl⟩
    go_wp2_with fail
    go_ret
    exact Ret.same R

end Go.Proofs.YtdgnbbmgcgfibaaGreatDoor
