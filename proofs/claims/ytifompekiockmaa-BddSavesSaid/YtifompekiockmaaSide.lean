/-
  A manager of the law's own that changes, beside blocks that do not.
-/
import Derived.Test.YtifompekiockmaaFront
namespace Go.Proofs.Ytifompekiockmaa
open Go.RowKit

structure Side (w : World) (p : Nat) (wr : World) (M : Mgr) (L : Lay) (ws : World) (X : Nat → Prop) : Prop where
  own : Own w p wr M L
  side : ∀ k, X k → k < wr.heap.size ∧ ¬ L.at p k ∧ wr.heap[k]? = ws.heap[k]?

section
variable {w : World} {p : Nat} {wr w' ws : World} {M M' : Mgr} {L : Lay} {X : Nat → Prop}

theorem Side.start (o : Own w p ws M L) : Side w p ws M L ws (fun k => k < ws.heap.size ∧ ¬ L.at p k) := ⟨o, fun _ h => ⟨h.1, h.2, rfl⟩⟩
theorem Side.no (s : Side w p wr M L ws X) (k : Kp No wr w') : Side w p w' M L ws X :=
  ⟨s.own.no k, fun x hx => ⟨Nat.lt_of_lt_of_le (s.side x hx).1 k.size, (s.side x hx).2.1, by rw [k.block x (s.side x hx).1 (fun y => y)]; exact (s.side x hx).2.2⟩⟩
theorem Side.step {v : Value} {e : Ending} (s : Side w p wr M L ws X) (h : Ret p L wr M' v e w') : e = .returned v ∧ ∃ L', Side w p w' M' L' ws X := by
  obtain ⟨L', he, r, k, f⟩ := h
  refine ⟨he, L', ⟨r, s.own.kp.trans (A' := L.at p) (fun x hx => .inr (s.own.own x hx)) k, fun x hx => ?_⟩, fun x hx => ?_⟩
  · rcases f x hx with h1 | h1
    · exact s.own.own x h1
    · have := s.own.kp.size; omega
  · obtain ⟨h1, h2, h3⟩ := s.side x hx
    refine ⟨Nat.lt_of_lt_of_le h1 k.size, fun hl => ?_, by rw [k.block x h1 h2]; exact h3⟩
    rcases f x hl with h4 | h4
    · exact h2 h4
    · omega
theorem Side.row {B e size n : Nat} {v : Value} {xs : List Value} (s : Side w p wr M L ws X) (h : ws.ownsRow B e size v n xs) (hx : ∀ k, v.ownBlock = some k → X k) : wr.ownsRow B e size v n xs := by
  refine ⟨h.1, ?_⟩
  rcases h.2 with h0 | ⟨g, cap, cur, rfl, hb, hg, r⟩
  · exact .inl h0
  · exact .inr ⟨g, cap, cur, rfl, hb, by rw [(s.side g (hx g rfl)).2.2]; exact hg, r⟩
theorem Side.cell {g o : Nat} (s : Side w p wr M L ws X) (hx : X g) : wr.cell? ⟨g, o, none⟩ = ws.cell? ⟨g, o, none⟩ := World.cell?_of_block (s.side g hx).2.2
theorem Side.tab {B : Nat} {v : Value} {t : List Bool} (s : Side w p wr M L ws X) (h : Tb B ws v t) (hx : ∀ k, v.ownBlock = some k → X k) : Tb B wr v t := s.row h hx
end

/-- A row of numbers: its cells. -/
theorem natsRow_cell {w : World} {B e : Nat} {v : Value} {l : List Nat} (h : w.ownsRow B e 1 v l.length (l.map natV)) {i : Nat} (hi : i < l.length) : ∃ g c, v = .slice (some ⟨g, 0, none⟩) l.length c ∧ w.cell? ⟨g, i, none⟩ = some (.int .i64 (l.getD i 0 : Int)) := by
  obtain ⟨g, cap, hv, _, _, _, hc, _⟩ := ownsRow_open h (by omega)
  exact ⟨g, cap, hv, hc i _ (by simp [natV, hi])⟩
theorem natsRow_form {w : World} {B e : Nat} {v : Value} {l : List Nat} (h : w.ownsRow B e 1 v l.length (l.map natV)) : ∃ ao c, v = .slice ao l.length c := by
  obtain ⟨a, c, hv, _⟩ := ownsRow_len (ownsRow_mono h (Nat.zero_le _))
  exact ⟨a, c, hv⟩

end Go.Proofs.Ytifompekiockmaa
