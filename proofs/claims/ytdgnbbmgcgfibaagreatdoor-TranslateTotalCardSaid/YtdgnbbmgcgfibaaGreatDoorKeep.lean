/-
  Walks: comparisons of lists that are equal: 'Ints' of netverifykeep, 'Nodes' of netverifylaw26.
-/
import Derived.Test.YtdgnbbmgcgfibaaGreatDoorQ
import Derived.Test.YtdgnbbmgcgfibaaGreatDoorHpm
import Derived.Test.YtdgnbbmgcgfibaaGreatDoorRep
import Derived.Deep.QuietTactic
import Derived.BigQuiet
namespace Go.Proofs.YtdgnbbmgcgfibaaGreatDoor
open Go.RowKit

def ClonePost (w : World) (n : Nat) (xs : List Value) (e : Ending) (w' : World) : Prop := ∃ v, e = .returned v ∧ w'.ownsRow w.heap.size 3 1 v n xs ∧ Kp No w w'

set_option maxRecDepth 100000 in
set_option maxHeartbeats 1000000 in
theorem Clone_ok {v : Value} {n : Nat} {xs : List Value} {w : World} (h : SrcAt w v 1 n xs) (h1 : ∀ x ∈ xs, x.oneCell' = true) (hn : n ≤ 1000000) : Calls Tryz.prog 128 #[v] w (ClonePost w n xs) := by
  obtain ⟨i0, hi0, hz0, hz1, hz2⟩ := info_parts info_int
  have HS := Lib.hid h
  have H1 := Lib.hid h1
  obtain ⟨ao, c, rfl, hl, hc⟩ := h
  cases ao with
  | none =>
    have hn0 : n = 0 := by
      rcases hc with hc | ⟨g, o, hx, _⟩
      · exact hc
      · cases hx
    subst hn0
    have hx0 : xs = [] := List.eq_nil_of_length_eq_zero (by simpa using hl)
    subst hx0
    have P : Hid (∀ q, ClonePost w 0 [] (.returned (.slice none 0 0)) (w.drewN q)) := Lib.hid (fun q => ⟨_, rfl, World.ownsRow_nil _ _ _ _, Kp.drewN _⟩)
    have hq : ∀ w, (binOp .eql 94 (.slice none 0 c) (.slice none 0 0)).run Tryz.prog w = .ok (.bool true) w := fun w => Lib.run_eql_slice_nil w 94 3 none 0 c 0 0 Tryz.underlying94
    clear h1 hl hc
    go_enter Tryz.func128, Tryz.ntmps128
    go_wp2_with fail
    go_ret
    exact P.out 0
  | some ad =>
    have hq : ∀ w, (binOp .eql 94 (.slice (some ad) n c) (.slice none 0 0)).run Tryz.prog w = .ok (.bool false) w := fun w => Lib.run_eql_slice_nil w 94 3 (some ad) n c 0 0 Tryz.underlying94
    have own : (w.alloc (.cells #[] 3)).ownsRow w.heap.size 3 1 (.slice (some ⟨w.heap.size, 0, none⟩) 0 0) 0 [] := ⟨rfl, .inr ⟨w.heap.size, 0, #[], rfl, Nat.le_refl _, heap_alloc_new _ _, Nat.le_refl _, by simp, rfl, rfl⟩⟩
    clear h1 hl hc
    go_enter Tryz.func128, Tryz.ntmps128
    go_wp2_with (at_builtin; refine wpList_append_src rfl _ _ rfl (base := w.heap.size) (v := .slice (some ⟨w.heap.size, 0, none⟩) 0 0) Tryz.underlying94 hi0 hz0 hz1 hz2 rfl (by omega) rfl own rfl (HS.out.no (Kp.alloc _)) H1.out (by unfold maxLen; omega) (by omega) (by simp) ?_; intro v2 w2 hown hgrow hat)
    have P : Hid (ClonePost w n xs (.returned v2) w2) := Lib.hid ⟨v2, rfl, by simpa using hown, (Kp.alloc _).trans (A' := fun k => k = w.heap.size) (fun k e => .inr (by omega)) ((Kp.grown hgrow).mono (fun k _ e => by simpa [Value.ownBlock] using e.symm))⟩
    clear hown hgrow hat own
    go_wp2_with fail
    go_ret
    exact P.out

set_option maxHeartbeats 400000 in
theorem Order_ok {p : Nat} {M : Mgr} {L : Lay} {w : World} (R : Rep w p M L) (hn : M.n ≤ 256) : Calls Tryz.prog 123 #[ptr p] w (NatsPost w M.order) := by
  obtain ⟨F, raw, _⟩ := R.raw
  have c0 := raw.c0
  have HC := Lib.hid (Clone_ok (SrcAt.of_row raw.order) (fun x hx => by obtain ⟨y, _, rfl⟩ := List.mem_map.1 hx; rfl) (by have : M.n = M.order.length := rfl; omega))
  obtain ⟨a, c, hv, _⟩ := ownsRow_len raw.order
  rw [hv] at c0 HC
  clear raw hv R hn
  go_enter Tryz.func123, Tryz.ntmps123
  go_wp2_with fail
  refine HC.out.mono ?_
  rintro e w' ⟨v, rfl, h1, h2⟩
  have P : Hid (NatsPost w M.order (.returned v) w') := ⟨v, rfl, h1, h2⟩
  clear h1 h2
  go_wp2_with fail
  go_ret
  exact P.out

end Go.Proofs.YtdgnbbmgcgfibaaGreatDoor

namespace Go.Proofs.YtdgnbbmgcgfibaaGreatDoor
open Go.RowKit

theorem row_zero {w : World} {B e size n : Nat} {v : Value} {xs : List Value} (h : w.ownsRow B e size v n xs) : w.ownsRow 0 e size v n xs := ⟨h.1, by
  rcases h.2 with x | ⟨g, cap, cur, hv, hg, r⟩
  · exact .inl x
  · exact .inr ⟨g, cap, cur, hv, Nat.zero_le _, r⟩⟩
/-! ### the whole of 'Save' -/
end Go.Proofs.YtdgnbbmgcgfibaaGreatDoor

namespace Go.Proofs.YtdgnbbmgcgfibaaGreatDoor
open Go.RowKit

/-- A cell of a slice. -/
theorem SrcAt.cellAt {w : World} {v : Value} {size n : Nat} {xs : List Value} (h : SrcAt w v size n xs) (hn : 0 < n) : ∃ g o c, v = .slice (some ⟨g, o, none⟩) n c ∧ g < w.heap.size ∧ ∀ (j : Nat) (u : Value), xs[j]? = some u → w.cell? ⟨g, o + j, none⟩ = some u := by
  obtain ⟨ao, c, rfl, hl, h⟩ := h
  rcases h with h | ⟨g, o, rfl, hg, h⟩
  · omega
  · exact ⟨g, o, c, rfl, hg, h⟩
theorem SrcAt.form {w : World} {v : Value} {size n : Nat} {xs : List Value} (h : SrcAt w v size n xs) : ∃ ao c, v = .slice ao n c := by
  obtain ⟨ao, c, hv, _⟩ := h
  exact ⟨ao, c, hv⟩

end Go.Proofs.YtdgnbbmgcgfibaaGreatDoor
