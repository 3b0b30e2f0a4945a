/-
  Walks: 'Show' and 'node' of the package bdd.
-/
import Derived.Test.YtgglkldoclejaaaDoorW1
import Derived.StillTailTactics
namespace Go.Proofs.YtgglkldoclejaaaDoor
open Go.RowKit

def Mgr.show (M : Mgr) (f : Nat) : Mgr := { M with shown := M.shown.set f true }

theorem Mgr.vis_show (M : Mgr) (f g : Nat) (h : f < M.shown.length) : (M.show f).vis g = (if g = f then true else M.vis g) := by
  by_cases e : g = f
  · subst e; simp [Mgr.show, Mgr.vis, h]
  · have e' : ¬ f = g := fun x => e x.symm
    simp [Mgr.show, Mgr.vis, e, e']

theorem Mgr.show_wf {M : Mgr} (h : M.WF) {f : Nat} (hf : M.stored f) : (M.show f).WF := by
  have hlt : f < M.shown.length := by rw [h.sh]; exact M.stored_lt h hf
  refine ⟨h.len, h.ol, h.lo_, h.two, h.nd0, h.nd1, ?_, ?_, ?_, ?_, h.node, h.inj, h.fr, h.fnd⟩
  · show (M.shown.set f true).length = _; rw [List.length_set]; exact h.sh
  · rw [vis_show _ _ _ hlt]; split
    · rfl
    · exact h.sh0
  · rw [vis_show _ _ _ hlt]; split
    · rfl
    · exact h.sh1
  · intro g hg
    rw [vis_show _ _ _ hlt] at hg
    split at hg
    · rename_i e; subst e; exact hf
    · exact h.shst g hg

theorem Mgr.show_semF (M : Mgr) (f : Nat) (a : Nat → Bool) : ∀ k g, (M.show f).semF k g a = M.semF k g a
  | 0, _ => rfl
  | k + 1, g => by
    unfold Mgr.semF
    rw [Mgr.show_semF M f a k, Mgr.show_semF M f a k]
    rfl
theorem Mgr.show_sem (M : Mgr) (f g : Nat) (a : Nat → Bool) : (M.show f).sem g a = M.sem g a := M.show_semF f a _ g

theorem Mgr.show_sound {M : Mgr} {F : Trip → Option Nat} (h : M.Sound F) (f : Nat) : (M.show f).Sound F := by
  intro x r hr
  obtain ⟨a, b, c, hx, h1, h2, h3, h4, hs⟩ := h x r hr
  exact ⟨a, b, c, hx, h1, h2, h3, h4, fun s => by simp only [Mgr.show_sem]; exact hs s⟩

theorem take_set_row {cur : Array Value} {k n i : Nat} {xs : List Value} (h : cur.toList.take n = xs) (v : Value) (hk : k = i) : (cur.setIfInBounds k v).toList.take n = xs.set i v := by
  subst hk
  rw [Array.toList_setIfInBounds, List.take_set, h]

/-- A store into an owned row. -/
theorem ownsRow_store {w : World} {e size n : Nat} {g cap : Nat} {xs : List Value} (h : w.ownsRow 0 e size (.slice (some ⟨g, 0, none⟩) n cap) n xs) (i : Nat) (v : Value) :
    (w.setCell ⟨g, i, none⟩ v).ownsRow 0 e size (.slice (some ⟨g, 0, none⟩) n cap) n (xs.set i v) := by
  refine ⟨by rw [List.length_set]; exact h.1, ?_⟩
  rcases h.2 with ⟨hx, _⟩ | ⟨g', cap', cur, hv, hb, hg, h1, h2, h3, h4⟩
  · cases hx
  · cases hv
    exact .inr ⟨g, cap, _, rfl, hb, setCell_heap hg v, h1, h2, by simpa using h3, take_set_row h4 v rfl⟩

set_option maxHeartbeats 400000 in
theorem show_ok {p : Nat} {M : Mgr} {L : Lay} (f : Nat) {w : World} (R : Rep w p M L) (hf : M.stored f) :
    Calls Tryd.prog 78 #[ptr p, .int .i64 f] w (Ret p L w (M.show f) (.int .i64 f)) := by
  obtain ⟨F, raw, snd⟩ := R.raw
  have hm := maxLen_val
  have hlt := M.stored_lt R.wf hf
  have hsh := R.wf.sh
  obtain ⟨bs, cap, hv, h1, h2, _, hcell, hfz⟩ := ownsRow_open raw.shown (by omega)
  have c3 := raw.c3
  rw [hv] at c3
  have hc : w.cell? ⟨bs, f, none⟩ = some (.bool (M.vis f)) := hcell _ _ (by simp [Mgr.vis, hsh ▸ hlt])
  have hz := hfz f
  have own := raw.shown
  rw [hv] at own
  have fin : Ret p L w (M.show f) (.int .i64 f) (.returned (.int .i64 f)) (w.setCell ⟨bs, f, none⟩ (.bool true)) := by
    have hk : Kp (fun k => L.ss.ownBlock = some k) w (w.setCell ⟨bs, f, none⟩ (.bool true)) := (Kp.setCell _ _).mono (fun k _ e => by rw [hv, e]; rfl)
    refine ⟨L, rfl, ⟨⟨F, raw.kpShown hk _ ?_, Mgr.show_sound snd f⟩, Mgr.show_wf R.wf hf⟩, hk.mono (fun k _ e => by simp [Lay.at, e]), fun k hk => .inl hk⟩
    have := ownsRow_store own f (.bool true)
    rw [hv]
    simpa [Mgr.show, List.map_set] using this
  have FIN := Lib.hid fin
  have hle : M.shown.length ≤ 9223372036854775807 := by omega
  have b1 : (f : Int) < M.shown.length := by omega
  clear raw R hm hv hcell hfz fin own snd hsh hlt hf h1 h2
  generalize M.shown.length = ns at *
  generalize M.vis f = b at *
  go_enter Tryd.func78, Tryd.ntmps78
  go_wp2
  go_ret
  exact FIN.out

theorem info_node : (Tryd.prog.info? 107).map (fun i => (i.zero, i.size, i.bytes)) = some (some (.agg #[.int .i64 0, .int .i64 0, .int .i64 0]), 3, 24) := by kernel_rfl
theorem info_bool : (Tryd.prog.info? 4).map (fun i => (i.zero, i.size, i.bytes)) = some (some (.bool false), 1, 1) := by kernel_rfl

set_option maxHeartbeats 400000 in
theorem node_same (p : Nat) (v lo : Int) (w : World) :
    Calls Tryd.prog 79 #[ptr p, .int .i64 v, .int .i64 lo, .int .i64 lo] w fun e w' => e = .returned (.int .i64 lo) ∧ w = w' := by
  go_enter Tryd.func79, Tryd.ntmps79
  go_wp2
  go_ret
  exact ⟨rfl, rfl⟩

abbrev box3 (a b c : Int) : Obj := .cells #[.int .i64 a, .int .i64 b, .int .i64 c] 107

set_option maxHeartbeats 400000 in
theorem node_found {p : Nat} {L : Lay} {order level : List Nat} {nodes : List Nd} {shown : List Bool} {free : List Nat} {U F : Trip → Option Nat} (v lo hi : Int) (r : Nat) {w : World}
    (raw : Raw w p L order level nodes shown free U F) (hne : lo ≠ hi) (hu : U (v, lo, hi) = some r) :
    Calls Tryd.prog 79 #[ptr p, .int .i64 v, .int .i64 lo, .int .i64 hi] w fun e w' => e = .returned (.int .i64 r) ∧ Kp No w w' := by
  have hne' : (lo == hi) = false := by simpa using hne
  have c5 := raw.c5
  have plt := raw.plt
  have hl2 : ∀ n, (Instr.lookup 101 (.map (some L.bu)) (.agg #[.int .i64 v, .int .i64 lo, .int .i64 hi]) true).run Tryd.prog ((w.alloc (box3 v lo hi)).drewN n) = .ok (.tuple #[.int .i64 r, .bool true]) ((w.alloc (box3 v lo hi)).drewN n) := fun n => by
    have := (raw.uniq.kp (Kp.trans_no (Kp.alloc (box3 v lo hi)) (Kp.drewN n)) (fun x => x)).lookup keyNode Tryd.underlying101 zeroRef (v, lo, hi) true
    rw [hu] at this
    exact this
  clear raw hu
  generalize L.bu = bu at *
  go_enter Tryd.func79, Tryd.ntmps79
  go_wp2
  go_quiet (fail)
  go_wp2
  go_ret
  exact ⟨rfl, (Kp.alloc _).trans_no (Kp.drewN _)⟩

end Go.Proofs.YtgglkldoclejaaaDoor
