/-
  Walks: 'node' of the package bdd, where a free place is taken; the contract of 'node'.
-/
import Derived.Test.YtngbodmooddjbaaRep
import Derived.Deep.QuietTactic
import Derived.BigQuiet
import Derived.Deep.RegionLaw
import Derived.Deep.DeepCutAuto
import Derived.StillTailTactics
namespace Go.Proofs.Ytngbodmooddjbaa
open Go.RowKit

set_option maxHeartbeats 400000 in
theorem constant_any (n : Int) (w : World) :
    Calls Try.prog 109 #[.int .i64 n] w fun e w' => e = .returned (.bool (n == 0 || n == 1)) ∧ w = w' := by
  by_cases h0 : n = 0
  · subst h0
    go_enter Try.func109, Try.ntmps109
    go_wp2
    go_ret
    exact ⟨rfl, rfl⟩
  · have h1 : (n == 0) = false := by simpa using h0
    go_enter Try.func109, Try.ntmps109
    go_wp2
    go_ret
    simp [h1]

theorem constant_yes (n : Nat) (w : World) (h : n < 2) :
    Calls Try.prog 109 #[.int .i64 n] w fun e w' => e = .returned (.bool true) ∧ w = w' := by
  have h1 : ((n : Int) == 0 || (n : Int) == 1) = true := by simp; omega
  rw [← h1]; exact constant_any n w
theorem constant_no (n : Nat) (w : World) (h : 2 ≤ n) :
    Calls Try.prog 109 #[.int .i64 n] w fun e w' => e = .returned (.bool false) ∧ w = w' := by
  have h1 : ((n : Int) == 0 || (n : Int) == 1) = false := by simp; omega
  rw [← h1]; exact constant_any n w

/-- The Refs that are valid. -/
def Mgr.valid (M : Mgr) (f : Int) : Bool := decide (0 ≤ f) && M.vis f.toNat

theorem maxLen_val : maxLen = 9223372036854775807 := rfl

theorem Rep.any {w : World} {p : Nat} {M : Mgr} {L : Lay} (R : Rep w p M L) : ∃ F, Raw w p L M.order M.level M.nodes M.shown M.free M.uq F ∧ M.Sound F := R.raw

set_option maxHeartbeats 400000 in
theorem valid_ok {p : Nat} {M : Mgr} {L : Lay} (n : Int) {w : World} (R : Rep w p M L) :
    Calls Try.prog 51 #[ptr p, .int .i64 n] w fun e w' => e = .returned (.bool (M.valid n)) ∧ w = w' := by
  obtain ⟨F, raw, _⟩ := R.raw
  have c3 := raw.c3
  have two := R.wf.two
  have hsh := R.wf.sh
  obtain ⟨bs, cap, hv, h1, h2, _, hcell, _⟩ := ownsRow_open raw.shown (by omega)
  rw [hv] at c3
  have hm := maxLen_val
  have hle : M.shown.length ≤ 9223372036854775807 := by omega
  by_cases hn : n < 0
  · have e : M.valid n = false := by
      have h0 : ¬ 0 ≤ n := by omega
      simp [Mgr.valid, h0]
    rw [e]
    clear c3 hcell
    go_enter Try.func51, Try.ntmps51
    go_wp2
    go_ret
    exact ⟨rfl, rfl⟩
  · have hn' : 0 ≤ n := by omega
    by_cases hb : (M.shown.length : Int) ≤ n
    · have e : M.valid n = false := by
        have : M.shown[n.toNat]? = none := List.getElem?_eq_none (by omega)
        simp [Mgr.valid, Mgr.vis, this]
      rw [e]
      clear hcell hsh two hm raw e hv R h1
      generalize M.shown.length = ns at *
      go_enter Try.func51, Try.ntmps51
      go_wp2
      go_ret
      exact ⟨rfl, rfl⟩
    · have hb' : n < (M.shown.length : Int) := by omega
      have e : M.valid n = M.vis n.toNat := by simp [Mgr.valid, hn']
      have hget : (M.shown.map Value.bool)[n.toNat]? = some (.bool (M.vis n.toNat)) := by
        have : n.toNat < M.shown.length := by omega
        simp [Mgr.vis, this]
      have hc := hcell _ _ hget
      rw [e]
      clear hcell hsh two hm raw e hv R h1 hget hb
      generalize M.shown.length = ns at *
      generalize M.vis n.toNat = b at *
      go_enter Try.func51, Try.ntmps51
      go_wp2
      go_ret
      exact ⟨rfl, rfl⟩

theorem valid_as {p : Nat} {M : Mgr} {L : Lay} (n : Int) (b : Bool) {w : World} (R : Rep w p M L) (h : M.valid n = b) :
    Calls Try.prog 51 #[ptr p, .int .i64 n] w fun e w' => e = .returned (.bool b) ∧ w = w' := by
  rw [← h]; exact valid_ok n R

/-- The length of an owned row of one cell each, or nil. -/
theorem ownsRow_len {w : World} {e size n : Nat} {v : Value} {xs : List Value} (h : w.ownsRow 0 e size v n xs) : ∃ a c, v = .slice a n c ∧ n ≤ maxLen := by
  rcases h.2 with ⟨rfl, rfl⟩ | ⟨g, cap, cur, rfl, _, _, h1, h2, _⟩
  · exact ⟨none, 0, rfl, by simp [maxLen_val]⟩
  · exact ⟨_, cap, rfl, Nat.le_trans h1 h2⟩

set_option maxHeartbeats 400000 in
theorem variable_ok {p : Nat} {M : Mgr} {L : Lay} (v : Int) {w : World} (R : Rep w p M L) :
    Calls Try.prog 91 #[ptr p, .int .i64 v] w fun e w' => e = .returned (.bool (decide (0 ≤ v ∧ v < M.n))) ∧ w = w' := by
  obtain ⟨F, raw, _⟩ := R.raw
  have c0 := raw.c0
  obtain ⟨a, c, hv, hl⟩ := ownsRow_len raw.order
  have hm := maxLen_val
  have hle : M.order.length ≤ 9223372036854775807 := by omega
  have hn : M.n = M.order.length := rfl
  rw [hv] at c0
  rw [hn]
  clear raw R hv hl hm hn
  generalize M.order.length = n at *
  by_cases h0 : 0 ≤ v
  · by_cases h1 : v < n
    · rw [show decide (0 ≤ v ∧ v < (n : Int)) = true from by simp [h0, h1]]
      go_enter Try.func91, Try.ntmps91
      go_wp2
      go_ret
      exact ⟨rfl, rfl⟩
    · rw [show decide (0 ≤ v ∧ v < (n : Int)) = false from by simp [h1]]
      go_enter Try.func91, Try.ntmps91
      go_wp2
      go_ret
      exact ⟨rfl, rfl⟩
  · rw [show decide (0 ≤ v ∧ v < (n : Int)) = false from by simp [h0]]
    have h0' : v < 0 := by omega
    go_enter Try.func91, Try.ntmps91
    go_wp2
    go_ret
    exact ⟨rfl, rfl⟩

theorem variable_as {p : Nat} {M : Mgr} {L : Lay} (v : Int) (b : Bool) {w : World} (R : Rep w p M L) (h : decide (0 ≤ v ∧ v < M.n) = b) :
    Calls Try.prog 91 #[ptr p, .int .i64 v] w fun e w' => e = .returned (.bool b) ∧ w = w' := by
  rw [← h]; exact variable_ok v R

set_option maxHeartbeats 400000 in
theorem vars_ok {p : Nat} {M : Mgr} {L : Lay} {w : World} (R : Rep w p M L) :
    Calls Try.prog 57 #[ptr p] w fun e w' => e = .returned (natV M.n) ∧ w = w' := by
  obtain ⟨F, raw, _⟩ := R.raw
  have c0 := raw.c0
  obtain ⟨a, c, hv, hl⟩ := ownsRow_len raw.order
  have hm := maxLen_val
  have hle : M.order.length ≤ 9223372036854775807 := by omega
  have hn : M.n = M.order.length := rfl
  rw [hv] at c0
  rw [hn]
  clear raw R hv hl hm hn
  generalize M.order.length = n at *
  go_enter Try.func57, Try.ntmps57
  go_wp2
  go_ret
  exact ⟨rfl, rfl⟩

/-- The cells of a node. -/
theorem Raw.node_cells {w : World} {p : Nat} {M : Mgr} {L : Lay} {F : Trip → Option Nat} (raw : Raw w p L M.order M.level M.nodes M.shown M.free M.uq F) (wf : M.WF) :
    ∃ bn cn, L.sn = .slice (some ⟨bn, 0, none⟩) M.nodes.length cn ∧ M.nodes.length ≤ cn ∧ cn ≤ maxLen ∧ ∀ f, f < M.nodes.length →
      w.cell? ⟨bn, f * 3, none⟩ = some (.int .i64 (M.nd f).1) ∧ w.cell? ⟨bn, f * 3 + 1, none⟩ = some (natV (M.nd f).2.1) ∧ w.cell? ⟨bn, f * 3 + 2, none⟩ = some (natV (M.nd f).2.2) := by
  have two := wf.two
  obtain ⟨bn, cap, hv, h1, h2, _, hcell, _⟩ := ownsRow_open raw.nodes (by omega)
  refine ⟨bn, cap, hv, h1, h2, fun f hf => ?_⟩
  have hg := nd_get hf
  exact ⟨hcell _ _ (ndCells_get _ f 0 _ hg (by omega)), hcell _ _ (ndCells_get _ f 1 _ hg (by omega)), hcell _ _ (ndCells_get _ f 2 _ hg (by omega))⟩

/-- The cells of a row of numbers. -/
theorem ownsRow_nats {w : World} {e : Nat} {v : Value} {l : List Nat} (h : w.ownsRow 0 e 1 v l.length (l.map natV)) (i : Nat) (hi : i < l.length) :
    ∃ g cap, v = .slice (some ⟨g, 0, none⟩) l.length cap ∧ l.length ≤ cap ∧ cap ≤ maxLen ∧ w.cell? ⟨g, i, none⟩ = some (natV (l.getD i 0)) := by
  obtain ⟨g, cap, hv, h1, h2, _, hcell, _⟩ := ownsRow_open h (by omega)
  exact ⟨g, cap, hv, h1, h2, hcell _ _ (by simp [hi])⟩

theorem Mgr.stored_lt {M : Mgr} (h : M.WF) {f : Nat} (hf : M.stored f) : f < M.nodes.length := by
  have := h.two
  rcases hf with hf | hf
  · omega
  · exact hf.1

set_option maxHeartbeats 400000 in
theorem depth_ok {p : Nat} {M : Mgr} {L : Lay} (f : Nat) {w : World} (R : Rep w p M L) (hf : M.stored f) :
    Calls Try.prog 122 #[ptr p, .int .i64 f] w fun e w' => e = .returned (.int .i64 (M.depth f)) ∧ ∃ k, w' = w.drewN k := by
  obtain ⟨F, raw, _⟩ := R.raw
  have hm := maxLen_val
  have hlt := M.stored_lt R.wf hf
  by_cases h2 : f < 2
  · have e : M.depth f = M.order.length := by unfold Mgr.depth; rw [if_pos h2]; rfl
    rw [e]
    have c0 := raw.c0
    obtain ⟨a, c, hv, hl⟩ := ownsRow_len raw.order
    rw [hv] at c0
    have hle : M.order.length ≤ 9223372036854775807 := by omega
    clear raw hv hl hm e R
    generalize M.order.length = n at *
    go_enter Try.func122, Try.ntmps122
    go_wp2_with (go_at_call 109; refine (constant_yes _ _ h2).mono ?_; rintro e w' ⟨rfl, rfl⟩)
    go_ret
    exact ⟨rfl, 0, rfl⟩
  · have e : M.depth f = M.lev (M.nd f).1.toNat := by unfold Mgr.depth; rw [if_neg h2]
    obtain ⟨v0, v1, _⟩ := Mgr.node_of R.wf hf (by omega)
    obtain ⟨bn, cn, hsn, hcn, hcm, hnd⟩ := raw.node_cells R.wf
    obtain ⟨hv, _⟩ := hnd f hlt
    obtain ⟨v, hvv⟩ := Int.eq_ofNat_of_zero_le v0
    have hvn : v < M.level.length := by rw [R.wf.len]; have : M.n = M.order.length := rfl; omega
    obtain ⟨bl, cl, hsl, hcl, hclm, hl⟩ := ownsRow_nats raw.level v hvn
    have c1 := raw.c1
    have c2 := raw.c2
    rw [hsl] at c1
    rw [hsn] at c2
    rw [e]
    rw [hvv] at hv ⊢
    have e2 : M.lev (Int.toNat (v : Int)) = M.level.getD v 0 := by simp [Mgr.lev]
    rw [e2]
    have hle1 : M.level.length ≤ 9223372036854775807 := by omega
    have hle2 : M.nodes.length ≤ 9223372036854775807 := by omega
    have h2' : 2 ≤ f := by omega
    have b1 : (f : Int) < M.nodes.length := by omega
    have b2 : (v : Int) < M.level.length := by omega
    unfold natV at hl
    clear raw R hm hsn hsl hnd e e2 hvv v0 v1 hcn hcm hcl hclm hf h2
    generalize M.level.getD v 0 = l at *
    generalize M.level.length = nl at *
    generalize M.nodes.length = nn at *
    go_enter Try.func122, Try.ntmps122
    go_wp2_with (go_at_call 109; refine (constant_no _ _ h2').mono ?_; rintro e w' ⟨rfl, rfl⟩)
    go_quiet (fail)
    go_wp2
    go_ret
    exact ⟨rfl, _, rfl⟩

/-- What 'split' returns. -/
def Mgr.sp (M : Mgr) (f v : Nat) : Nat × Nat := if (M.nd f).1 = (v : Int) then (M.nd f).2 else (f, f)

set_option maxHeartbeats 400000 in
theorem split_ok {p : Nat} {M : Mgr} {L : Lay} (f v : Nat) {w : World} (R : Rep w p M L) (hf : M.stored f) :
    Calls Try.prog 123 #[ptr p, .int .i64 f, .int .i64 v] w fun e w' => e = .returned (.tuple #[.int .i64 (M.sp f v).1, .int .i64 (M.sp f v).2]) ∧ Kp No w w' := by
  obtain ⟨F, raw, _⟩ := R.raw
  have hm := maxLen_val
  have hlt := M.stored_lt R.wf hf
  obtain ⟨bn, cn, hsn, hcn, hcm, hnd⟩ := raw.node_cells R.wf
  obtain ⟨n0, n1, n2⟩ := hnd f hlt
  have c2 := raw.c2
  rw [hsn] at c2
  have hle2 : M.nodes.length ≤ 9223372036854775807 := by omega
  have b1 : (f : Int) < M.nodes.length := by omega
  have hbn := World.block_lt_of_cell? _ _ n0
  unfold natV at n1 n2
  by_cases hv : (M.nd f).1 = (v : Int)
  · have e : M.sp f v = (M.nd f).2 := by unfold Mgr.sp; rw [if_pos hv]
    rw [e]
    rw [hv] at n0
    clear raw R hm hsn hnd e hcn hcm hf hv
    generalize (M.nd f).2 = x at *
    generalize M.nodes.length = nn at *
    go_enter Try.func123, Try.ntmps123
    go_wp2
    go_quiet (fail)
    go_wp2
    go_ret2
    exact ⟨rfl, (Kp.alloc _).trans_no (Kp.drewN _)⟩
  · have e : M.sp f v = (f, f) := by unfold Mgr.sp; rw [if_neg hv]
    rw [e]
    have hv' : ((M.nd f).1 == (v : Int)) = false := by simpa using hv
    clear raw R hm hsn hnd e hcn hcm hf hv
    generalize (M.nd f) = x at *
    generalize M.nodes.length = nn at *
    go_enter Try.func123, Try.ntmps123
    go_wp2
    go_ret2
    exact ⟨rfl, Kp.alloc _⟩

end Go.Proofs.Ytngbodmooddjbaa

namespace Go.Proofs.Ytngbodmooddjbaa
open Go.RowKit

def Mgr.show (M : Mgr) (f : Nat) : Mgr := { M with shown := M.shown.set f true }

theorem Mgr.vis_show (M : Mgr) (f g : Nat) (h : f < M.shown.length) : (M.show f).vis g = (if g = f then true else M.vis g) := by
  by_cases e : g = f
  · subst e; simp [Mgr.show, Mgr.vis, h]
  · have e' : ¬ f = g := fun x => e x.symm
    simp [Mgr.show, Mgr.vis, e, e']

theorem Mgr.show_wf {M : Mgr} (h : M.WF) {f : Nat} (hf : M.stored f) : (M.show f).WF := by
  have hlt : f < M.shown.length := by rw [h.sh]; exact M.stored_lt h hf
  refine ⟨h.len, h.ol, h.lo_, h.two, h.nd0, h.nd1, ?_, ?_, ?_, ?_, h.node, h.inj, h.fr, h.fnd⟩
  · show (M.shown.set f true).length = _; rw [List.length_set]; exact h.sh
  · rw [vis_show _ _ _ hlt]; split
    · rfl
    · exact h.sh0
  · rw [vis_show _ _ _ hlt]; split
    · rfl
    · exact h.sh1
  · intro g hg
    rw [vis_show _ _ _ hlt] at hg
    split at hg
    · rename_i e; subst e; exact hf
    · exact h.shst g hg

theorem Mgr.show_semF (M : Mgr) (f : Nat) (a : Nat → Bool) : ∀ k g, (M.show f).semF k g a = M.semF k g a
  | 0, _ => rfl
  | k + 1, g => by
    unfold Mgr.semF
    rw [Mgr.show_semF M f a k, Mgr.show_semF M f a k]
    rfl
theorem Mgr.show_sem (M : Mgr) (f g : Nat) (a : Nat → Bool) : (M.show f).sem g a = M.sem g a := M.show_semF f a _ g

theorem Mgr.show_sound {M : Mgr} {F : Trip → Option Nat} (h : M.Sound F) (f : Nat) : (M.show f).Sound F := by
  intro x r hr
  obtain ⟨a, b, c, hx, h1, h2, h3, h4, hs⟩ := h x r hr
  exact ⟨a, b, c, hx, h1, h2, h3, h4, fun s => by simp only [Mgr.show_sem]; exact hs s⟩

theorem take_set_row {cur : Array Value} {k n i : Nat} {xs : List Value} (h : cur.toList.take n = xs) (v : Value) (hk : k = i) : (cur.setIfInBounds k v).toList.take n = xs.set i v := by
  subst hk
  rw [Array.toList_setIfInBounds, List.take_set, h]

/-- A store into an owned row. -/
theorem ownsRow_store {w : World} {e size n : Nat} {g cap : Nat} {xs : List Value} (h : w.ownsRow 0 e size (.slice (some ⟨g, 0, none⟩) n cap) n xs) (i : Nat) (v : Value) :
    (w.setCell ⟨g, i, none⟩ v).ownsRow 0 e size (.slice (some ⟨g, 0, none⟩) n cap) n (xs.set i v) := by
  refine ⟨by rw [List.length_set]; exact h.1, ?_⟩
  rcases h.2 with ⟨hx, _⟩ | ⟨g', cap', cur, hv, hb, hg, h1, h2, h3, h4⟩
  · cases hx
  · cases hv
    exact .inr ⟨g, cap, _, rfl, hb, setCell_heap hg v, h1, h2, by simpa using h3, take_set_row h4 v rfl⟩

set_option maxHeartbeats 400000 in
theorem show_ok {p : Nat} {M : Mgr} {L : Lay} (f : Nat) {w : World} (R : Rep w p M L) (hf : M.stored f) :
    Calls Try.prog 53 #[ptr p, .int .i64 f] w (Ret p L w (M.show f) (.int .i64 f)) := by
  obtain ⟨F, raw, snd⟩ := R.raw
  have hm := maxLen_val
  have hlt := M.stored_lt R.wf hf
  have hsh := R.wf.sh
  obtain ⟨bs, cap, hv, h1, h2, _, hcell, hfz⟩ := ownsRow_open raw.shown (by omega)
  have c3 := raw.c3
  rw [hv] at c3
  have hc : w.cell? ⟨bs, f, none⟩ = some (.bool (M.vis f)) := hcell _ _ (by simp [Mgr.vis, hsh ▸ hlt])
  have hz := hfz f
  have own := raw.shown
  rw [hv] at own
  have fin : Ret p L w (M.show f) (.int .i64 f) (.returned (.int .i64 f)) (w.setCell ⟨bs, f, none⟩ (.bool true)) := by
    have hk : Kp (fun k => L.ss.ownBlock = some k) w (w.setCell ⟨bs, f, none⟩ (.bool true)) := (Kp.setCell _ _).mono (fun k _ e => by rw [hv, e]; rfl)
    refine ⟨L, rfl, ⟨⟨F, raw.kpShown hk _ ?_, Mgr.show_sound snd f⟩, Mgr.show_wf R.wf hf⟩, hk.mono (fun k _ e => by simp [Lay.at, e]), fun k hk => .inl hk⟩
    have := ownsRow_store own f (.bool true)
    rw [hv]
    simpa [Mgr.show, List.map_set] using this
  have FIN := Lib.hid fin
  have hle : M.shown.length ≤ 9223372036854775807 := by omega
  have b1 : (f : Int) < M.shown.length := by omega
  clear raw R hm hv hcell hfz fin own snd hsh hlt hf h1 h2
  generalize M.shown.length = ns at *
  generalize M.vis f = b at *
  go_enter Try.func53, Try.ntmps53
  go_wp2
  go_ret
  exact FIN.out

theorem info_node : (Try.prog.info? 89).map (fun i => (i.zero, i.size, i.bytes)) = some (some (.agg #[.int .i64 0, .int .i64 0, .int .i64 0]), 3, 24) := by kernel_rfl
theorem info_bool : (Try.prog.info? 4).map (fun i => (i.zero, i.size, i.bytes)) = some (some (.bool false), 1, 1) := by kernel_rfl

set_option maxHeartbeats 400000 in
theorem node_same (p : Nat) (v lo : Int) (w : World) :
    Calls Try.prog 92 #[ptr p, .int .i64 v, .int .i64 lo, .int .i64 lo] w fun e w' => e = .returned (.int .i64 lo) ∧ w = w' := by
  go_enter Try.func92, Try.ntmps92
  go_wp2
  go_ret
  exact ⟨rfl, rfl⟩

abbrev box3 (a b c : Int) : Obj := .cells #[.int .i64 a, .int .i64 b, .int .i64 c] 89

set_option maxHeartbeats 400000 in
theorem node_found {p : Nat} {L : Lay} {order level : List Nat} {nodes : List Nd} {shown : List Bool} {free : List Nat} {U F : Trip → Option Nat} (v lo hi : Int) (r : Nat) {w : World}
    (raw : Raw w p L order level nodes shown free U F) (hne : lo ≠ hi) (hu : U (v, lo, hi) = some r) :
    Calls Try.prog 92 #[ptr p, .int .i64 v, .int .i64 lo, .int .i64 hi] w fun e w' => e = .returned (.int .i64 r) ∧ Kp No w w' := by
  have hne' : (lo == hi) = false := by simpa using hne
  have c5 := raw.c5
  have plt := raw.plt
  have hl2 : ∀ n, (Instr.lookup 91 (.map (some L.bu)) (.agg #[.int .i64 v, .int .i64 lo, .int .i64 hi]) true).run Try.prog ((w.alloc (box3 v lo hi)).drewN n) = .ok (.tuple #[.int .i64 r, .bool true]) ((w.alloc (box3 v lo hi)).drewN n) := fun n => by
    have := (raw.uniq.kp (Kp.trans_no (Kp.alloc (box3 v lo hi)) (Kp.drewN n)) (fun x => x)).lookup keyNode Try.underlying91 zeroRef (v, lo, hi) true
    rw [hu] at this
    exact this
  clear raw hu
  generalize L.bu = bu at *
  go_enter Try.func92, Try.ntmps92
  go_wp2
  go_quiet (fail)
  go_wp2
  go_ret
  exact ⟨rfl, (Kp.alloc _).trans_no (Kp.drewN _)⟩

end Go.Proofs.Ytngbodmooddjbaa

namespace Go.Proofs.Ytngbodmooddjbaa
open Go.RowKit

/-- What 'node' does if the node is not there, and none is free. -/
def NewPost (p : Nat) (L : Lay) (order level : List Nat) (nodes : List Nd) (shown : List Bool) (U F : Trip → Option Nat) (v lo hi : Nat) (w : World) (e : Ending) (w' : World) : Prop :=
  ∃ L', e = .returned (.int .i64 nodes.length) ∧ Raw w' p L' order level (nodes ++ [((v : Int), lo, hi)]) (shown ++ [false]) [] (fun x => if x = ((v : Int), (lo : Int), (hi : Int)) then some nodes.length else U x) F ∧
    Kp (L.at p) w w' ∧ Fresh (L.at p) (L'.at p) w

theorem grown_no {w w1 w' : World} {r : Option Nat} (h : Kp No w w1) (g : w1.grownBy w' r) : Kp (fun k => r = some k) w w' := h.no_trans (Kp.grown g)

/-- The store behind the append to 'nodes'. -/
def StB (p : Nat) (L : Lay) (order level : List Nat) (nodes : List Nd) (shown : List Bool) (U F : Trip → Option Nat) (v lo hi : Nat) (w : World) (B : Nat) (x : World) : Prop :=
  ∃ sn, Raw x p { L with sn := sn } order level (nodes ++ [((v : Int), lo, hi)]) shown [] U F ∧ Kp (L.at p) w x ∧ Fresh (L.at p) (Lay.at { L with sn := sn } p) w ∧
    x.heap[B]? = some (.cells #[.int .i64 v, .int .i64 lo, .int .i64 hi] 89 (0, 0))

theorem StB.mk {p : Nat} {L : Lay} {order level : List Nat} {nodes : List Nd} {shown : List Bool} {U F : Trip → Option Nat} {v lo hi : Nat} {w A A' w1 : World} {B g cap bn cn n : Nat}
    (raw : Raw A p L order level nodes shown [] U F) (hsn : L.sn = .slice (some ⟨bn, 0, none⟩) n cn) (kA : Kp No w A) (bA : A.heap[B]? = some (.cells #[.int .i64 v, .int .i64 lo, .int .i64 hi] 89 (0, 0)))
    (hB : w.heap.size = B) (kA' : Kp No A A') (hown : w1.ownsRow 0 89 3 (.slice (some ⟨g, 0, none⟩) (nodes.length + 1) cap) (nodes.length + 1) (nodes.flatMap ndCells ++ [.int .i64 v, .int .i64 lo, .int .i64 hi]))
    (hgrow : A'.grownBy w1 (Value.slice (some ⟨bn, 0, none⟩) n cn).ownBlock) (hat : (Value.slice (some ⟨bn, 0, none⟩) n cn).ownBlock = some g ∨ g = A.heap.size + 1) (hbn : bn < B) :
    StB p L order level nodes shown U F v lo hi w B (w1.setCell ⟨p, 2, none⟩ (.slice (some ⟨g, 0, none⟩) (nodes.length + 1) cap)) := by
  have kg : Kp (fun k => L.sn.ownBlock = some k) A w1 := by rw [hsn]; exact grown_no kA' hgrow
  have hp : p < w.heap.size ∨ w.heap.size ≤ p := by omega
  have k1 : Kp (L.at p) A w1 := kg.mono (fun k _ e => by simp [Lay.at, e])
  have hB' : B < A.heap.size := heap_lt bA
  refine ⟨_, raw.pushNodes kg (nodes ++ [((v : Int), lo, hi)]) ?_, ?_, ?_, ?_⟩
  · simpa [List.flatMap_append, ndCells] using hown
  · exact (kA.no_trans k1).trans (A' := L.at p) (fun k h => .inl h) ((Kp.setCell _ _).mono (fun k _ e => .inl e))
  · intro k hk
    rcases hk with h | h | h | h | h | h | h | h
    · exact .inl (.inl h)
    · exact .inl (.inr (.inl h))
    · exact .inl (.inr (.inr (.inl h)))
    · exact .inl (by simp [Lay.at] at h ⊢; simp [h])
    · exact .inl (by simp [Lay.at] at h ⊢; simp [h])
    · have hg : g = k := by simpa [Value.ownBlock] using h
      rcases hat with hat | hat
      · left
        have : L.sn.ownBlock = some k := by rw [hsn, ← hg]; exact hat
        simp [Lay.at, this]
      · right
        have := kA.size
        omega
    · exact .inl (by simp [Lay.at] at h ⊢; simp [h])
    · exact .inl (by simp [Lay.at] at h ⊢; simp [h])
  · have hpB : p ≠ B := fun e => by
      have := raw.mgr
      rw [e, bA] at this
      simp at this
    have h1 : w1.heap[B]? = A.heap[B]? := kg.block B hB' (fun e => by rw [hsn] at e; simp [Value.ownBlock] at e; omega)
    rw [Below.heap_setCell _ _ _ _ (Ne.symm hpB), h1]; exact bA

theorem StC.mk {p : Nat} {L : Lay} {order level : List Nat} {nodes : List Nd} {shown : List Bool} {U F : Trip → Option Nat} {v lo hi : Nat} {w A A' w1 : World} {B g cap bs cs n : Nat} {sn : Value}
    (raw : Raw A p { L with sn := sn } order level nodes shown [] U F) (hss : L.ss = .slice (some ⟨bs, 0, none⟩) n cs) (kA : Kp (L.at p) w A) (fr : Fresh (L.at p) (Lay.at { L with sn := sn } p) w) (bA : A.heap[B]? = some (.cells #[.int .i64 v, .int .i64 lo, .int .i64 hi] 89 (0, 0)))
    (hB : w.heap.size = B) (kA' : Kp No A A') (hown : w1.ownsRow 0 4 1 (.slice (some ⟨g, 0, none⟩) (shown.length + 1) cap) (shown.length + 1) (shown.map .bool ++ [.bool false]))
    (hgrow : A'.grownBy w1 (Value.slice (some ⟨bs, 0, none⟩) n cs).ownBlock) (hat : (Value.slice (some ⟨bs, 0, none⟩) n cs).ownBlock = some g ∨ g = A.heap.size + 1) (hbs : bs < B) :
    Raw (w1.setCell ⟨p, 3, none⟩ (.slice (some ⟨g, 0, none⟩) (shown.length + 1) cap)) p { L with sn := sn, ss := .slice (some ⟨g, 0, none⟩) (shown.length + 1) cap } order level nodes (shown ++ [false]) [] U F ∧
      Kp (L.at p) w (w1.setCell ⟨p, 3, none⟩ (.slice (some ⟨g, 0, none⟩) (shown.length + 1) cap)) ∧ Fresh (L.at p) (Lay.at { L with sn := sn, ss := .slice (some ⟨g, 0, none⟩) (shown.length + 1) cap } p) w ∧
      (w1.setCell ⟨p, 3, none⟩ (.slice (some ⟨g, 0, none⟩) (shown.length + 1) cap)).heap[B]? = some (.cells #[.int .i64 v, .int .i64 lo, .int .i64 hi] 89 (0, 0)) := by
  have kg : Kp (fun k => (Lay.ss { L with sn := sn }).ownBlock = some k) A w1 := by
    show Kp (fun k => L.ss.ownBlock = some k) A w1
    rw [hss]; exact grown_no kA' hgrow
  have k1 : Kp (L.at p) A w1 := kg.mono (fun k _ e => by simp at e; simp [Lay.at, e])
  have hB' : B < A.heap.size := heap_lt bA
  refine ⟨raw.pushShown kg (shown ++ [false]) ?_, ?_, ?_, ?_⟩
  · simpa using hown
  · exact (kA.trans (A' := L.at p) (fun k h => .inl h) k1).trans (A' := L.at p) (fun k h => .inl h) ((Kp.setCell _ _).mono (fun k _ e => .inl e))
  · intro k hk
    rcases hk with h | h | h | h | h | h | h | h
    · exact .inl (.inl h)
    · exact .inl (.inr (.inl h))
    · exact .inl (.inr (.inr (.inl h)))
    · exact fr k (by simp [Lay.at] at h ⊢; simp [h])
    · exact fr k (by simp [Lay.at] at h ⊢; simp [h])
    · exact fr k (by simp [Lay.at] at h ⊢; simp [h])
    · have hg : g = k := by simpa [Value.ownBlock] using h
      rcases hat with hat | hat
      · left
        have : L.ss.ownBlock = some k := by rw [hss, ← hg]; exact hat
        simp [Lay.at, this]
      · right
        have := kA.size
        omega
    · exact fr k (by simp [Lay.at] at h ⊢; simp [h])
  · have hpB : p ≠ B := fun e => by
      have := raw.mgr
      rw [e, bA] at this
      simp at this
    have h1 : w1.heap[B]? = A.heap[B]? := kg.block B hB' (fun e => by simp [hss, Value.ownBlock] at e; omega)
    rw [Below.heap_setCell _ _ _ _ (Ne.symm hpB), h1]; exact bA

set_option maxRecDepth 100000 in
set_option maxHeartbeats 1000000 in
theorem node_new {p : Nat} {L : Lay} {order level : List Nat} {nodes : List Nd} {shown : List Bool} {U F : Trip → Option Nat} (v lo hi : Nat) {w : World}
    (raw : Raw w p L order level nodes shown [] U F) (hne : lo ≠ hi) (hu : U (v, lo, hi) = none) (hn0 : 0 < nodes.length) (hs0 : 0 < shown.length) (hnb : nodes.length ≤ big) (hsb : shown.length ≤ big) :
    Calls Try.prog 92 #[ptr p, .int .i64 v, .int .i64 lo, .int .i64 hi] w (NewPost p L order level nodes shown U F v lo hi w) := by
  have hne' : ((lo : Int) == (hi : Int)) = false := by simp; omega
  have c5 := raw.c5
  have c2 := raw.c2
  have c4 := raw.c4
  have plt := raw.plt
  unfold big at hnb hsb
  obtain ⟨bn, cn, hsn, _⟩ := ownsRow_open raw.nodes hn0
  obtain ⟨bs, cs, hss, _⟩ := ownsRow_open raw.shown hs0
  obtain ⟨af, cf, hsf, _⟩ := ownsRow_len raw.free
  have hbs : bs < w.heap.size := raw.lt bs (by rw [Lay.at, hss]; simp [Value.ownBlock])
  have hbn : bn < w.heap.size := raw.lt bn (by rw [Lay.at, hsn]; simp [Value.ownBlock])
  have hpn : p ≠ bn := fun e => raw.row_mgr raw.nodes (by decide) (by rw [hsn, e]; rfl)
  have hps : p ≠ bs := fun e => raw.row_mgr raw.shown (by decide) (by rw [hss, e]; rfl)
  rw [hsn] at c2
  rw [hsf] at c4
  simp only [List.length_nil] at c4
  have hl2 : ∀ n, (Instr.lookup 91 (.map (some L.bu)) (.agg #[.int .i64 v, .int .i64 lo, .int .i64 hi]) true).run Try.prog ((w.alloc (box3 v lo hi)).drewN n) = .ok (.tuple #[.int .i64 0, .bool false]) ((w.alloc (box3 v lo hi)).drewN n) := fun n => by
    have := (raw.uniq.kp (Kp.trans_no (Kp.alloc (box3 v lo hi)) (Kp.drewN n)) (fun x => x)).lookup keyNode Try.underlying91 zeroRef ((v : Int), (lo : Int), (hi : Int)) true
    rw [hu] at this
    exact this
  have RAW := Lib.hid raw
  have HSN := Lib.hid hsn
  have HSS := Lib.hid hss
  clear raw hu hsn hsf hss
  obtain ⟨i0, hi0, hz0, hz1, hz2⟩ := info_parts info_node
  obtain ⟨j0, hj0, hy0, hy1, hy2⟩ := info_parts info_bool
  have NN : nodes.length ≤ 9223372036854775807 := by omega
  go_enter Try.func92, Try.ntmps92
  go_wp2
  go_quiet (fail)
  go_wp2
  -- the box
  have kpA : Kp No w ((w.alloc (Obj.cells #[.int .i64 v, .int .i64 lo, .int .i64 hi] 89)).drewN nq) := (Kp.alloc _).trans_no (Kp.drewN _)
  have boxA : ((w.alloc (Obj.cells #[.int .i64 v, .int .i64 lo, .int .i64 hi] 89)).drewN nq).heap[w.heap.size]? = some (Obj.cells #[.int .i64 v, .int .i64 lo, .int .i64 hi] 89 (0, 0)) := heap_alloc_new _ _
  have szA : w.heap.size < ((w.alloc (Obj.cells #[.int .i64 v, .int .i64 lo, .int .i64 hi] 89)).drewN nq).heap.size := heap_lt boxA
  clear hl2 c2 c4 c5
  generalize ((w.alloc (Obj.cells #[.int .i64 v, .int .i64 lo, .int .i64 hi] 89)).drewN nq) = A at *
  have rawA := RAW.out.no kpA
  have a2 := rawA.c2
  have g2 := rawA.fz 2
  have pltA := rawA.plt
  have oA := rawA.nodes
  rw [HSN.out] at a2 oA
  have e0 : A.cell? ⟨w.heap.size, 0, none⟩ = some (.int .i64 v) := by simp [World.cell?, boxA]
  have e1 : A.cell? ⟨w.heap.size, 1, none⟩ = some (.int .i64 lo) := by simp [World.cell?, boxA]
  have e2 : A.cell? ⟨w.heap.size, 2, none⟩ = some (.int .i64 hi) := by simp [World.cell?, boxA]
  have RA := Lib.hid rawA
  have BA := Lib.hid boxA
  have KA := Lib.hid kpA
  clear rawA boxA kpA
  have RAW' := RAW
  clear RAW
  generalize hB : w.heap.size = B at *
  have HB := Lib.hid hB
  clear hB
  have HBN := Lib.hid hbn
  go_cut [] (fun x => StB p L order level nodes shown U F v lo hi w B x)
  case first =>
    go_region_law ((refine step_append_lies _ (by rfl) _ _ _ (by rfl) 0 89 i0 _ 3 24 Try.underlying90 hi0 hz0 hz1 hz2 rfl (by omega) _ nodes.length (nodes.flatMap ndCells) (by rfl) ((oA.drew).alloc _) ⟨A.heap.size, 0, none⟩ 1 1 [.int .i64 v, .int .i64 lo, .int .i64 hi] (by rfl) rfl (World.news_of_block (heap_alloc_new _ _)) (by simp [Value.oneCell']) (by omega) (by unfold maxLen; omega) (by omega) (by omega) (A.heap.size + 1) (by simp) ?_; intro g cap w1 hown hgrow hat hlt; have q2 : w1.cell? ⟨p, 2, none⟩ = some (.slice (some ⟨bn, 0, none⟩) nodes.length cn) := (hgrow.cell_far ⟨p, 2, none⟩ (by simp; omega) (fun e => hpn (Option.some.inj e))).trans ((World.cell?_alloc_lt _ _ _ pltA).trans a2); have q3 : w1.frozen? ⟨p, 2, none⟩ = false := (hgrow.frozen_far ⟨p, 2, none⟩ (by simp; omega) (fun e => hpn (Option.some.inj e))).trans ((World.frozen?_alloc_old _ _ _ (by simp; omega)).trans g2)))
    all_goals
      go_wp2_with fail
      go_meet
      case rel => exact StB.mk RA.out HSN.out KA.out BA.out HB.out (by first | exact (Kp.alloc _).trans_no Kp.drew | exact Kp.drew.no_trans (Kp.alloc _)) hown hgrow hat hbn
  case rest =>
    obtain ⟨sn, rawB, kpB, frB, boxB⟩ := hcut
    have b3 := rawB.c3
    have f3 := rawB.fz 3
    have pB := rawB.plt
    have oB := rawB.shown
    simp only [HSS.out] at b3 oB
    have RB := Lib.hid rawB
    have KB := Lib.hid kpB
    have FB := Lib.hid frB
    have BB := Lib.hid boxB
    clear rawB kpB frB boxB
    go_wp2_with (at_builtin; refine wpList_append_lies _ rfl _ _ _ rfl 0 4 j0 _ 1 1 Try.underlying44 hj0 hy0 hy1 hy2 rfl (by omega) _ shown.length (shown.map .bool) rfl (oB.alloc _) ⟨wc.heap.size, 0, none⟩ 1 1 [.bool false] rfl rfl (World.news_of_block (heap_alloc_new _ _)) (by simp [Value.oneCell']) (by omega) (by unfold maxLen; omega) (by omega) (by omega) (wc.heap.size + 1) (by simp) ?_; intro g' cap' w2 hown2 hgrow2 hat2 hlt2; have q2 : w2.cell? ⟨p, 3, none⟩ = some (.slice (some ⟨bs, 0, none⟩) shown.length cs) := (hgrow2.cell_far ⟨p, 3, none⟩ (by simp; omega) (fun e => hps (Option.some.inj e))).trans ((World.cell?_alloc_lt _ _ _ pB).trans b3); have q3 : w2.frozen? ⟨p, 3, none⟩ = false := (hgrow2.frozen_far ⟨p, 3, none⟩ (by simp; omega) (fun e => hps (Option.some.inj e))).trans ((World.frozen?_alloc_old _ _ _ (by simp; omega)).trans f3))
    obtain ⟨rawC, kpC, frC, boxC⟩ := StC.mk RB.out (by simpa using HSS.out) KB.out FB.out BB.out HB.out (Kp.alloc _) hown2 hgrow2 hat2 hbs
    clear hown2 hgrow2 hat2 hlt2 q2 q3 b3 f3 oB pB
    generalize (w2.setCell ⟨p, 3, none⟩ (.slice (some ⟨g', 0, none⟩) (shown.length + 1) cap')) = C at *
    obtain ⟨w3, hupd, hmap, hk3, _⟩ := rawC.uniq.update keyNode Try.underlying91 ((v : Int), (lo : Int), (hi : Int)) nodes.length
    have c5 := rawC.c5
    have e0 : C.cell? ⟨B, 0, none⟩ = some (.int .i64 v) := by simp [World.cell?, boxC]
    have e1 : C.cell? ⟨B, 1, none⟩ = some (.int .i64 lo) := by simp [World.cell?, boxC]
    have e2 : C.cell? ⟨B, 2, none⟩ = some (.int .i64 hi) := by simp [World.cell?, boxC]
    have up : (Instr.mapUpdate 91 (.map (some L.bu)) (.agg #[.int .i64 v, .int .i64 lo, .int .i64 hi]) (.int .i64 nodes.length)).run Try.prog C.drew = .ok () w3.drew := hupd 1
    have FIN : Hid (NewPost p L order level nodes shown U F v lo hi w (.returned (.int .i64 nodes.length)) w3.drew) :=
      ⟨_, rfl, (rawC.setUniq hmap hk3).no Kp.drew, (kpC.trans frC (hk3.mono (fun k _ e => .inr (.inl e)))).trans_no Kp.drew, frC⟩
    clear hupd hmap hk3 rawC kpC frC boxC RB KB FB BB
    simp only at c5
    generalize L.bu = bu at *
    go_region
    go_wp2
    go_ret
    exact FIN.out

end Go.Proofs.Ytngbodmooddjbaa

namespace Go.Proofs.Ytngbodmooddjbaa
open Go.RowKit

theorem ownsRow_cut {w : World} {e size n n' g cap : Nat} {xs : List Value} (h : w.ownsRow 0 e size (.slice (some ⟨g, 0, none⟩) n cap) n xs) (hn : n' ≤ n) :
    w.ownsRow 0 e size (.slice (some ⟨g, 0, none⟩) n' cap) n' (xs.take (n' * size)) := by
  have hm : n' * size ≤ n * size := Nat.mul_le_mul_right _ hn
  refine ⟨by rw [List.length_take, h.1]; omega, ?_⟩
  rcases h.2 with ⟨hx, _⟩ | ⟨g', cap', cur, hv, hb, hg, h1, h2, h3, h4⟩
  · cases hx
  · cases hv
    exact .inr ⟨g, cap, cur, rfl, hb, hg, by omega, h2, h3, by rw [← h4, List.take_take]; congr 1; omega⟩

theorem flat_set (l : List Nd) (f : Nat) (x : Nd) (h : f < l.length) :
    (((l.flatMap ndCells).set (f * 3) (.int .i64 x.1)).set (f * 3 + 1) (.int .i64 (x.2.1 : Int))).set (f * 3 + 2) (.int .i64 (x.2.2 : Int)) = (l.set f x).flatMap ndCells := by
  induction l generalizing f with
  | nil => simp at h
  | cons y l ih =>
    cases f with
    | zero => simp [ndCells]
    | succ f =>
      have := ih f (by simpa using h)
      have e0 : (f + 1) * 3 = f * 3 + 1 + 1 + 1 := by omega
      have e1 : (f + 1) * 3 + 1 = f * 3 + 1 + 1 + 1 + 1 := by omega
      have e2 : (f + 1) * 3 + 2 = f * 3 + 2 + 1 + 1 + 1 := by omega
      rw [e1, e2, e0]
      simp only [List.flatMap_cons, List.set_cons_succ]
      rw [← this]
      simp only [ndCells, List.cons_append, List.nil_append, List.set_cons_succ]

/-- What 'node' does if the node is not there, and a place is free. -/
def FreePost (p : Nat) (L : Lay) (order level : List Nat) (nodes : List Nd) (shown : List Bool) (free : List Nat) (f : Nat) (U F : Trip → Option Nat) (v lo hi : Nat) (w : World) (e : Ending) (w' : World) : Prop :=
  ∃ L', e = .returned (.int .i64 f) ∧ Raw w' p L' order level (nodes.set f ((v : Int), lo, hi)) shown free (fun x => if x = ((v : Int), (lo : Int), (hi : Int)) then some f else U x) F ∧
    Kp (L.at p) w w' ∧ Fresh (L.at p) (L'.at p) w

set_option maxRecDepth 100000 in
set_option maxHeartbeats 1000000 in
theorem node_free {p : Nat} {L : Lay} {order level : List Nat} {nodes : List Nd} {shown : List Bool} {free : List Nat} {f : Nat} {U F : Trip → Option Nat} (v lo hi : Nat) {w : World}
    (raw : Raw w p L order level nodes shown (free ++ [f]) U F) (hne : lo ≠ hi) (hu : U (v, lo, hi) = none) (hf : f < nodes.length) :
    Calls Try.prog 92 #[ptr p, .int .i64 v, .int .i64 lo, .int .i64 hi] w (FreePost p L order level nodes shown free f U F v lo hi w) := by
  have hne' : ((lo : Int) == (hi : Int)) = false := by simp; omega
  have c5 := raw.c5
  have c2 := raw.c2
  have c4 := raw.c4
  have z4 := raw.fz 4
  have plt := raw.plt
  obtain ⟨bn, cn, hsn, hn1, hn2, _, hncell, hnfz⟩ := ownsRow_open raw.nodes (by omega)
  obtain ⟨bf, cf, hsf, hf1, hf2, _, hfcell, _⟩ := ownsRow_open raw.free (by simp)
  have hpn : p ≠ bn := fun e => raw.row_mgr raw.nodes (by decide) (by rw [hsn, e]; rfl)
  have hpf : p ≠ bf := fun e => raw.row_mgr raw.free (by decide) (by rw [hsf, e]; rfl)
  have hnf : bn ≠ bf := fun e => row_ne raw.nodes raw.free (by decide) (k := bn) (by rw [hsn]; rfl) (by rw [hsf, e]; rfl)
  have hm := maxLen_val
  have cf0 : w.cell? ⟨bf, free.length, none⟩ = some (.int .i64 f) := hfcell _ _ (by simp [natV])
  have bflt := World.block_lt_of_cell? _ _ cf0
  have hg := ndCells_get nodes f 0 (nodes[f]) (by simp [hf]) (by omega)
  have k0 := hncell _ _ (ndCells_get nodes f 0 (nodes[f]) (by simp [hf]) (by omega))
  have k1 := hncell _ _ (ndCells_get nodes f 1 (nodes[f]) (by simp [hf]) (by omega))
  have k2 := hncell _ _ (ndCells_get nodes f 2 (nodes[f]) (by simp [hf]) (by omega))
  have bnlt := World.block_lt_of_cell? _ _ k0
  have y0 := hnfz (f * 3)
  have y1 := hnfz (f * 3 + 1)
  have y2 := hnfz (f * 3 + 2)
  rw [hsn] at c2
  rw [hsf] at c4
  simp only [List.length_append, List.length_singleton] at c4 hf1
  have hl2 : ∀ n, (Instr.lookup 91 (.map (some L.bu)) (.agg #[.int .i64 v, .int .i64 lo, .int .i64 hi]) true).run Try.prog ((w.alloc (box3 v lo hi)).drewN n) = .ok (.tuple #[.int .i64 0, .bool false]) ((w.alloc (box3 v lo hi)).drewN n) := fun n => by
    have := (raw.uniq.kp (Kp.trans_no (Kp.alloc (box3 v lo hi)) (Kp.drewN n)) (fun x => x)).lookup keyNode Try.underlying91 zeroRef ((v : Int), (lo : Int), (hi : Int)) true
    rw [hu] at this
    exact this
  have RAW := Lib.hid raw
  have HSN := Lib.hid hsn
  have HSF := Lib.hid hsf
  have NN : nodes.length ≤ 9223372036854775807 := by omega
  have FF : free.length + 1 ≤ 9223372036854775807 := by omega
  have q1 : (f : Int) < nodes.length := by omega
  have q2 : (free.length : Int) + 1 ≤ cf := by omega
  clear raw hu hsn hsf hncell hnfz hfcell hg hm hne
  go_enter Try.func92, Try.ntmps92
  go_wp2
  go_quiet (fail)
  go_wp2
  -- the box; the field 'free'
  have kpA : Kp No w ((w.alloc (Obj.cells #[.int .i64 v, .int .i64 lo, .int .i64 hi] 89)).drewN nq) := (Kp.alloc _).trans_no (Kp.drewN _)
  have boxA : ((w.alloc (Obj.cells #[.int .i64 v, .int .i64 lo, .int .i64 hi] 89)).drewN nq).heap[w.heap.size]? = some (Obj.cells #[.int .i64 v, .int .i64 lo, .int .i64 hi] 89 (0, 0)) := heap_alloc_new _ _
  clear hl2 c2 c4 c5 k0 k1 k2 y0 y1 y2 z4 cf0
  generalize ((w.alloc (Obj.cells #[.int .i64 v, .int .i64 lo, .int .i64 hi] 89)).drewN nq) = A at *
  have rawA := RAW.out.no kpA
  have oA := rawA.free
  rw [HSF.out] at oA
  have oA' := ownsRow_cut oA (n' := free.length) (by simp)
  rw [Nat.mul_one, List.map_append, List.take_left' (by simp)] at oA'
  have rawB := rawA.setFree (free' := free) oA'
  have boxB : (A.setCell ⟨p, 4, none⟩ (.slice (some ⟨bf, 0, none⟩) free.length cf)).heap[w.heap.size]? = some (Obj.cells #[.int .i64 v, .int .i64 lo, .int .i64 hi] 89 (0, 0)) := by
    rw [Below.heap_setCell _ _ _ _ (by simp; omega)]; exact boxA
  have kpB : Kp (L.at p) w (A.setCell ⟨p, 4, none⟩ (.slice (some ⟨bf, 0, none⟩) free.length cf)) := kpA.no_trans ((Kp.setCell _ _).mono (fun k _ e => .inl e))
  have frB : Fresh (L.at p) (Lay.at { L with sf := .slice (some ⟨bf, 0, none⟩) free.length cf } p) w := fun k hk => .inl (by
    rcases hk with h | h | h | h | h | h | h | h
    · exact .inl h
    · exact .inr (.inl h)
    · exact .inr (.inr (.inl h))
    · simp [Lay.at] at h ⊢; simp [h]
    · simp [Lay.at] at h ⊢; simp [h]
    · simp [Lay.at] at h ⊢; simp [h]
    · simp [Lay.at] at h ⊢; simp [h]
    · have : L.sf.ownBlock = some k := by rw [HSF.out]; exact h
      simp [Lay.at, this])
  clear rawA oA oA' kpA boxA
  generalize (A.setCell ⟨p, 4, none⟩ (.slice (some ⟨bf, 0, none⟩) free.length cf)) = W at *
  have c2 := rawB.c2
  have oN := rawB.nodes
  simp only [HSN.out] at c2 oN
  obtain ⟨bn', cn', he, _, _, _, hncell, hnfz⟩ := ownsRow_open oN (by omega)
  cases he
  have k0 := hncell _ _ (ndCells_get nodes f 0 (nodes[f]) (by simp [hf]) (by omega))
  have k1 := hncell _ _ (ndCells_get nodes f 1 (nodes[f]) (by simp [hf]) (by omega))
  have k2 := hncell _ _ (ndCells_get nodes f 2 (nodes[f]) (by simp [hf]) (by omega))
  have y0 := hnfz (f * 3)
  have y1 := hnfz (f * 3 + 1)
  have y2 := hnfz (f * 3 + 2)
  simp only [Nat.add_zero] at k0
  have e0 : W.cell? ⟨w.heap.size, 0, none⟩ = some (.int .i64 v) := by simp [World.cell?, boxB]
  have e1 : W.cell? ⟨w.heap.size, 1, none⟩ = some (.int .i64 lo) := by simp [World.cell?, boxB]
  have e2 : W.cell? ⟨w.heap.size, 2, none⟩ = some (.int .i64 hi) := by simp [World.cell?, boxB]
  have hbB : bn ≠ w.heap.size := by omega
  have hk : Kp (fun k => L.sn.ownBlock = some k) W (((W.setCell ⟨bn, f * 3, none⟩ (.int .i64 v)).setCell ⟨bn, f * 3 + 1, none⟩ (.int .i64 lo)).setCell ⟨bn, f * 3 + 2, none⟩ (.int .i64 hi)) := by
    have hs : ∀ (X : World) (i : Nat) (u : Value), Kp (fun k => L.sn.ownBlock = some k) X (X.setCell ⟨bn, i, none⟩ u) := fun X i u => (Kp.setCell _ _).mono (fun k _ e => by rw [HSN.out, e]; rfl)
    exact ((hs _ _ _).trans (A' := fun k => L.sn.ownBlock = some k) (fun k h => .inl h) (hs _ _ _)).trans (A' := fun k => L.sn.ownBlock = some k) (fun k h => .inl h) (hs _ _ _)
  have oN3 := ownsRow_store (ownsRow_store (ownsRow_store oN (f * 3) (.int .i64 v)) (f * 3 + 1) (.int .i64 lo)) (f * 3 + 2) (.int .i64 hi)
  rw [show (((nodes.flatMap ndCells).set (f * 3) (.int .i64 (v : Int))).set (f * 3 + 1) (.int .i64 (lo : Int))).set (f * 3 + 2) (.int .i64 (hi : Int)) = (nodes.set f ((v : Int), lo, hi)).flatMap ndCells from flat_set nodes f ((v : Int), lo, hi) hf] at oN3
  have rawC := rawB.kpNodes hk (nodes.set f ((v : Int), lo, hi)) (by simpa [HSN.out] using oN3)
  have boxC : (((W.setCell ⟨bn, f * 3, none⟩ (.int .i64 v)).setCell ⟨bn, f * 3 + 1, none⟩ (.int .i64 lo)).setCell ⟨bn, f * 3 + 2, none⟩ (.int .i64 hi)).heap[w.heap.size]? = some (Obj.cells #[.int .i64 v, .int .i64 lo, .int .i64 hi] 89 (0, 0)) := by
    rw [hk.block _ (heap_lt boxB) (fun e => by rw [HSN.out] at e; simp [Value.ownBlock] at e; omega)]; exact boxB
  obtain ⟨w3, hupd, hmap, hk3, _⟩ := rawC.uniq.update keyNode Try.underlying91 ((v : Int), (lo : Int), (hi : Int)) f
  have c5 := rawC.c5
  have j0 : (((W.setCell ⟨bn, f * 3, none⟩ (.int .i64 v)).setCell ⟨bn, f * 3 + 1, none⟩ (.int .i64 lo)).setCell ⟨bn, f * 3 + 2, none⟩ (.int .i64 hi)).cell? ⟨w.heap.size, 0, none⟩ = some (.int .i64 v) := by simp [World.cell?, boxC]
  have j1 : (((W.setCell ⟨bn, f * 3, none⟩ (.int .i64 v)).setCell ⟨bn, f * 3 + 1, none⟩ (.int .i64 lo)).setCell ⟨bn, f * 3 + 2, none⟩ (.int .i64 hi)).cell? ⟨w.heap.size, 1, none⟩ = some (.int .i64 lo) := by simp [World.cell?, boxC]
  have j2 : (((W.setCell ⟨bn, f * 3, none⟩ (.int .i64 v)).setCell ⟨bn, f * 3 + 1, none⟩ (.int .i64 lo)).setCell ⟨bn, f * 3 + 2, none⟩ (.int .i64 hi)).cell? ⟨w.heap.size, 2, none⟩ = some (.int .i64 hi) := by simp [World.cell?, boxC]
  have up : ∀ n, (Instr.mapUpdate 91 (.map (some L.bu)) (.agg #[.int .i64 v, .int .i64 lo, .int .i64 hi]) (.int .i64 f)).run Try.prog ((((W.setCell ⟨bn, f * 3, none⟩ (.int .i64 v)).setCell ⟨bn, f * 3 + 1, none⟩ (.int .i64 lo)).setCell ⟨bn, f * 3 + 2, none⟩ (.int .i64 hi)).drewN n) = .ok () (w3.drewN n) := hupd
  have FIN : Hid (∀ n, FreePost p L order level nodes shown free f U F v lo hi w (.returned (.int .i64 f)) (w3.drewN n)) := fun n =>
    ⟨_, rfl, (rawC.setUniq hmap hk3).no (Kp.drewN n), ((kpB.trans frB (hk.mono (fun k _ e => by simp [Lay.at, e]))).trans frB (hk3.mono (fun k _ e => .inr (.inl e)))).trans_no (Kp.drewN n), frB⟩
  have UP := Lib.hid up
  have J0 := Lib.hid j0
  have J1 := Lib.hid j1
  have J2 := Lib.hid j2
  have C5 := Lib.hid c5
  clear hupd hmap hk3 rawC kpB frB boxC boxB rawB oN oN3 hk hncell hnfz RAW HSN HSF up j0 j1 j2 c5
  generalize w.heap.size = B at *
  go_region
  go_wp2
  have j0 := J0.out
  have j1 := J1.out
  have j2 := J2.out
  have c5 := C5.out
  have up := UP.out 2
  clear J0 J1 J2 C5 UP k0 k1 k2 y0 y1 y2 e0 e1 e2 c2
  generalize (((W.setCell ⟨bn, f * 3, none⟩ (.int .i64 v)).setCell ⟨bn, f * 3 + 1, none⟩ (.int .i64 lo)).setCell ⟨bn, f * 3 + 2, none⟩ (.int .i64 hi)) = X at *
  have up2 : (Instr.mapUpdate 91 (.map (some L.bu)) (.agg #[.int .i64 v, .int .i64 lo, .int .i64 hi]) (.int .i64 f)).run Try.prog X.drew.drew = .ok () w3.drew.drew := up
  clear up
  generalize L.bu = bu at *
  go_region
  go_wp2
  go_ret
  exact FIN.out 2

/-- The contract of 'node'. -/
theorem node_ok {p : Nat} {M : Mgr} {L : Lay} (v lo hi : Nat) {w : World} (R : Rep w p M L) (hv : v < M.n) (hl : M.stored lo) (hh : M.stored hi) (dl : M.lev v < M.depth lo) (dh : M.lev v < M.depth hi)
    (hb : (M.put v lo hi).1.nodes.length ≤ big) :
    Calls Try.prog 92 #[ptr p, .int .i64 v, .int .i64 lo, .int .i64 hi] w (Ret p L w (M.put v lo hi).1 (.int .i64 (M.put v lo hi).2)) := by
  obtain ⟨F, raw, snd⟩ := R.raw
  have ps := Mgr.put_spec R.wf hv hl hh dl dh
  have huq : M.uq ((v : Int), (lo : Int), (hi : Int)) = M.find ((v : Int), lo, hi) := by simp [Mgr.uq]
  by_cases e : lo = hi
  · have e1 : M.put v lo hi = (M, lo) := by unfold Mgr.put; rw [if_pos e]
    subst e
    rw [e1]
    refine (node_same p v lo w).mono ?_
    rintro e w' ⟨rfl, rfl⟩
    exact ⟨L, rfl, R, Kp.refl _ _, fun k h => .inl h⟩
  · cases hf : M.find ((v : Int), lo, hi) with
    | some r =>
      have e1 : M.put v lo hi = (M, r) := by unfold Mgr.put; rw [if_neg e, hf]
      rw [e1]
      refine (node_found (v : Int) lo hi r raw (by omega) (by rw [huq, hf])).mono ?_
      rintro e w' ⟨rfl, hk⟩
      exact ⟨L, rfl, ⟨⟨F, raw.no hk, snd⟩, R.wf⟩, hk.of_no, fun k h => .inl h⟩
    | none =>
      have uqNew : ∀ (M' : Mgr) (r : Nat), M'.WF → M'.stored r → 2 ≤ r → M'.nd r = ((v : Int), lo, hi) → (∀ x : Nd, x ≠ ((v : Int), lo, hi) → x.1 ≠ -1 → M'.find x = M.find x) →
          (fun x => if x = ((v : Int), (lo : Int), (hi : Int)) then some r else M.uq x) = M'.uq := by
        intro M' r wf' st h2 hn hold
        funext x
        by_cases hx : x = ((v : Int), (lo : Int), (hi : Int))
        · subst hx
          rw [if_pos rfl]
          simp only [Mgr.uq, Int.toNat_natCast]
          rw [if_pos (by omega), ← hn, Mgr.find_eq wf' h2 st]
        · rw [if_neg hx]
          unfold Mgr.uq
          split
          · rename_i hpos
            refine (hold _ (fun h => hx ?_) (by simp; omega)).symm
            simp only [Prod.mk.injEq] at h
            obtain ⟨a, b, c⟩ := x
            simp only at h hpos ⊢
            rw [h.1, ← h.2.1, ← h.2.2, Int.toNat_of_nonneg hpos.2.1, Int.toNat_of_nonneg hpos.2.2]
          · rfl
      -- the finds in the new store
      have findOld : ∀ (M' : Mgr) (r : Nat), M'.WF → M'.nd r = ((v : Int), lo, hi) → (∀ g, g ≠ r → M'.nd g = M.nd g) → (¬ M.stored r) → (∀ g, g < M'.nodes.length → g < M.nodes.length ∨ g = r) → M.nodes.length ≤ M'.nodes.length →
          ∀ x : Nd, x ≠ ((v : Int), lo, hi) → x.1 ≠ -1 → M'.find x = M.find x := by
        intro M' r wf' hn hold hst hll hlen x hx hx1
        cases h1 : M.find x with
        | some g =>
          obtain ⟨g2, gl, gn⟩ := Mgr.find_some h1
          have hgr : g ≠ r := fun e => hst (e ▸ .inr ⟨gl, by rw [gn]; exact hx1⟩)
          have hg' : M'.nd g = x := by rw [hold g hgr]; exact gn
          rw [← hg', Mgr.find_eq wf' g2 (.inr ⟨by omega, by rw [hg']; exact hx1⟩)]
        | none =>
          have hno := Mgr.find_none h1
          cases h2 : M'.find x with
          | none => rfl
          | some g =>
            obtain ⟨g2, gl, gn⟩ := Mgr.find_some h2
            exfalso
            by_cases hgr : g = r
            · rw [hgr, hn] at gn; exact hx gn.symm
            · exact hno g g2 ((hll g gl).resolve_right hgr) (by rw [← hold g hgr]; exact gn)
      cases hg : M.free.getLast? with
      | some f =>
        have hmem : f ∈ M.free := List.mem_of_getLast? hg
        obtain ⟨f2, fl, fv⟩ := R.wf.fr f hmem
        have hsplit : M.free = M.free.dropLast ++ [f] := by
          rw [List.getLast?_eq_some_iff] at hg
          obtain ⟨ys, hy⟩ := hg
          rw [hy]; simp
        have e1 : M.put v lo hi = ({ M with nodes := M.nodes.set f ((v : Int), lo, hi), free := M.free.dropLast }, f) := by unfold Mgr.put; rw [if_neg e, hf]; simp only [hg]
        rw [e1] at ps ⊢
        rw [hsplit] at raw
        refine (node_free v lo hi raw e (by rw [huq, hf]) fl).mono ?_
        rintro e w' ⟨L', rfl, raw', hk, hfr⟩
        have hnew : ({ M with nodes := M.nodes.set f ((v : Int), lo, hi), free := M.free.dropLast } : Mgr).nd f = ((v : Int), lo, hi) := by simp [Mgr.nd, fl]
        rw [uqNew _ f ps.wf ps.st f2 hnew (findOld _ f ps.wf hnew (fun g hne => by simp [Mgr.nd, Ne.symm hne]) (fun hs => by rcases hs with hs | ⟨_, hs⟩ <;> first | omega | exact hs fv) (fun g hg => by simp at hg; exact .inl hg) (by simp))] at raw'
        exact ⟨L', rfl, ⟨⟨F, raw', snd.ext R.wf ps.ext⟩, ps.wf⟩, hk, hfr⟩
      | none =>
        have hfree : M.free = [] := by simpa using hg
        have e1 : M.put v lo hi = ({ M with nodes := M.nodes ++ [((v : Int), lo, hi)], shown := M.shown ++ [false] }, M.nodes.length) := by unfold Mgr.put; rw [if_neg e, hf]; simp only [hg]
        rw [e1] at ps hb ⊢
        have two := R.wf.two
        have hsh := R.wf.sh
        simp at hb
        rw [hfree] at raw
        refine (node_new v lo hi raw e (by rw [huq, hf]) (by omega) (by omega) (by omega) (by omega)).mono ?_
        rintro e w' ⟨L', rfl, raw', hk, hfr⟩
        have hnew : ({ M with nodes := M.nodes ++ [((v : Int), lo, hi)], shown := M.shown ++ [false] } : Mgr).nd M.nodes.length = ((v : Int), lo, hi) := by simp [Mgr.nd]
        rw [uqNew _ M.nodes.length ps.wf ps.st two hnew (findOld _ M.nodes.length ps.wf hnew (fun g hne => by
            simp only [Mgr.nd, List.getD_eq_getElem?_getD, List.getElem?_append]
            split
            · rfl
            · rw [List.getElem?_eq_none (by simp; omega), List.getElem?_eq_none (by omega)]) (fun hs => by rcases hs with hs | ⟨hs, _⟩ <;> omega) (fun g hg => by simp at hg; omega) (by simp))] at raw'
        refine ⟨L', rfl, ⟨⟨F, ?_, snd.ext R.wf ps.ext⟩, ps.wf⟩, hk, hfr⟩
        simpa [hfree] using raw'

end Go.Proofs.Ytngbodmooddjbaa
