/-
  How the lists of 'Run' lie in memory beside the manager.
-/
import Derived.Test.YtgglkldoclejaaaDoorRunP
namespace Go.Proofs.YtgglkldoclejaaaDoor
open Go.RowKit

/-- No block of the value is the manager's. -/
def Off (L : Lay) (p : Nat) (v : Value) : Prop := ∀ k, v.ownBlock = some k → ¬ L.at p k

theorem ownsRow_mono {w : World} {B B' e size n : Nat} {v : Value} {xs : List Value} (h : w.ownsRow B e size v n xs) (hb : B' ≤ B) : w.ownsRow B' e size v n xs := by
  refine ⟨h.1, ?_⟩
  rcases h.2 with x | ⟨g, cap, cur, hv, hg, r⟩
  · exact .inl x
  · exact .inr ⟨g, cap, cur, hv, Nat.le_trans hb hg, r⟩

theorem Off.step {p : Nat} {L L' : Lay} {w : World} {v : Value} (h : Off L p v) (f : Fresh (L.at p) (L'.at p) w) (hlt : ∀ k, v.ownBlock = some k → k < w.heap.size) : Off L' p v := fun k hk hx => by
  rcases f k hx with h1 | h1
  · exact h k hk h1
  · have := hlt k hk; omega

section
variable {w : World} {p n : Nat} {L0 : Lay} {wr w' : World} {M M' : Mgr} {L : Lay} {fv tv : Value} {fs : List Int} {Fs : List BF} {tvs : List Value}

/-- The new table is none of the manager's. -/
theorem off_new {x : Value} {t : List Bool} (R : Rep wr p M L) (h : Tb wr.heap.size w' x t) : Off L p x := fun k hk hx => by
  have h1 := (h.lt k hk).1
  have := R.lt k hx
  omega

end

/-- The steps in memory: a slice of structs of four numbers. -/
def StepsAt (w : World) (v : Value) (l : List Stp) : Prop :=
  ∃ ao c, v = .slice ao l.length c ∧ (l = [] ∨ ∃ g o, ao = some ⟨g, o, none⟩ ∧ g < w.heap.size ∧ ∀ (i : Nat) (s : Stp), l[i]? = some s →
    w.cell? ⟨g, o + i * 4, none⟩ = some (.int .i64 s.1) ∧ w.cell? ⟨g, o + i * 4 + 1, none⟩ = some (.int .i64 s.2.1) ∧ w.cell? ⟨g, o + i * 4 + 2, none⟩ = some (.int .i64 s.2.2.1) ∧ w.cell? ⟨g, o + i * 4 + 3, none⟩ = some (.int .i64 s.2.2.2))

theorem StepsAt.kp {A : Nat → Prop} {w w' : World} {v : Value} {l : List Stp} (h : StepsAt w v l) (k : Kp A w w') (hA : l ≠ [] → ∀ g o n c, v = .slice (some ⟨g, o, none⟩) n c → ¬ A g) : StepsAt w' v l := by
  obtain ⟨ao, c, hv, h⟩ := h
  refine ⟨ao, c, hv, ?_⟩
  rcases h with h | ⟨g, o, rfl, hg, h⟩
  · exact .inl h
  · by_cases hl : l = []
    · exact .inl hl
    refine .inr ⟨g, o, rfl, Nat.lt_of_lt_of_le hg k.size, fun i s hi => ?_⟩
    obtain ⟨h0, h1, h2, h3⟩ := h i s hi
    have e : ∀ x, w'.cell? ⟨g, x, none⟩ = w.cell? ⟨g, x, none⟩ := fun x => k.cell hg (hA hl g o _ _ hv)
    exact ⟨by rw [e]; exact h0, by rw [e]; exact h1, by rw [e]; exact h2, by rw [e]; exact h3⟩

end Go.Proofs.YtgglkldoclejaaaDoor
