/-
  Walks: the law ReorderKeeps.
-/
import Derived.Test.YtngbodmooddjbaaGreatDos
import Derived.Test.YtngbodmooddjbaaGreatRunJ
namespace Go.Proofs.YtngbodmooddjbaaGreat
open Go.RowKit

/-- Changes of the order: Way, A, B. -/
abbrev ActT := Int × Int × Int
def ActsAt (w : World) (v : Value) (l : List ActT) : Prop :=
  ∃ ao c, v = .slice ao l.length c ∧ l.length ≤ maxLen ∧ (l = [] ∨ ∃ g o, ao = some ⟨g, o, none⟩ ∧ g < w.heap.size ∧ ∀ (i : Nat) (s : ActT), l[i]? = some s →
    w.cell? ⟨g, o + i * 3, none⟩ = some (.int .i64 s.1) ∧ w.cell? ⟨g, o + i * 3 + 1, none⟩ = some (.int .i64 s.2.1) ∧ w.cell? ⟨g, o + i * 3 + 2, none⟩ = some (.int .i64 s.2.2))
theorem ActsAt.no {w w' : World} {v : Value} {l : List ActT} (h : ActsAt w v l) (k : Kp No w w') : ActsAt w' v l := by
  obtain ⟨ao, c, hv, hm, h⟩ := h
  refine ⟨ao, c, hv, hm, ?_⟩
  rcases h with h | ⟨g, o, rfl, hg, h⟩
  · exact .inl h
  · refine .inr ⟨g, o, rfl, Nat.lt_of_lt_of_le hg k.size, fun i s hi => ?_⟩
    obtain ⟨h0, h1, h2⟩ := h i s hi
    have e : ∀ x, w'.cell? ⟨g, x, none⟩ = w.cell? ⟨g, x, none⟩ := fun x => k.cell hg (fun x => x)
    exact ⟨by rw [e]; exact h0, by rw [e]; exact h1, by rw [e]; exact h2⟩
def actL (len : Nat) (c : Nat → Nat → Int) : List ActT := (List.range len).map fun i => (c i 0, c i 1, c i 2)
theorem ActsAt.of {w : World} {v : Value} {len : Nat} {c : Nat → Nat → Int} (h : NumsAt w v 3 (fun _ => .i64) len c) : ActsAt w v (actL len c) := by
  obtain ⟨ao, cap, rfl, hl, h⟩ := h
  have hlen : (actL len c).length = len := by simp [actL]
  refine ⟨ao, cap, by rw [hlen], by rw [hlen]; exact hl, ?_⟩
  rcases h with h | ⟨g, o, rfl, hg, h⟩
  · exact .inl (by simp [actL, h])
  · refine .inr ⟨g, o, rfl, hg, fun i s hs => ?_⟩
    have hi : i < len := by
      rcases Nat.lt_or_ge i len with x | x
      · exact x
      · rw [List.getElem?_eq_none (by rw [hlen]; exact x)] at hs; cases hs
    simp [actL, hi] at hs
    subst hs
    have := h i hi
    exact ⟨by simpa [Nat.add_assoc] using (this 0 (by omega)).1, by simpa [Nat.add_assoc] using (this 1 (by omega)).1, by simpa [Nat.add_assoc] using (this 2 (by omega)).1⟩
set_option maxRecDepth 100000 in
theorem open_acts {H : Type} {enc : TypeId × Value → H} {w : World} {sp : Nat → Bool} {held : Bool} {r : Reach} {b0 : Nat} {v : Value} {d : DataW H} {ps : List MemPlace}
    (hv : Value.okWide Tryz.prog w r b0 23 v) (h : DataW.Trod enc Tryz.prog w 0 sp held 23 v d ps) : ∃ l, ActsAt w v l ∧ True := by
  obtain ⟨len, c, hn⟩ := open_nums (kd := fun _ => .i64) (k := 3) Tryz.underlying23 (fs := Tryz.prog.fieldsOf 37) (by kernel_rfl) (by kernel_rfl) (by kernel_rfl) (by kernel_rfl) (by kernel_rfl) (by omega) hv h
  exact ⟨_, ActsAt.of hn, trivial⟩

theorem permI_of {n : Nat} {l : List Nat} (hp : PermL l) (hl : l.length = n) : PermI n (l.map Int.ofNat) := by
  refine ⟨by rw [List.length_map, hl], ?_, fun v hv => ?_⟩
  · have h := hp.1
    rw [List.nodup_iff_pairwise_ne] at h ⊢
    rw [List.pairwise_map]
    exact h.imp (fun {a b} hne e => hne (Int.ofNat.inj e))
  · obtain ⟨u, hu, rfl⟩ := List.mem_map.1 hv
    have := hp.2 u hu
    exact ⟨Int.natCast_nonneg _, by show (u : Int) < n; omega⟩
/-- The Refs of the run denote what they denoted. -/
theorem DoJ.rp {w : World} {p n c : Nat} {x : World} {M M0 : Mgr} {L : Lay} {fv tv : Value} {fs : List Int} {Fs : List BF} {tvs : List Value} {l : List Nat} (j : DoJ w p n x M L fv tv fs Fs tvs l M0) (h : RP n c M0 fs Fs) {c' : Nat} (hc : M.nodes.length ≤ c') : RP n c' M fs Fs :=
  ⟨j.fr.own.rep.wf, j.nn, h.len, h.pos, fun i f F h1 h2 => by
    obtain ⟨v, s, u⟩ := h.sem i f F h1 h2
    obtain ⟨m, rfl, _, hm⟩ := Mgr.valid_nat h.wf v
    refine ⟨?_, fun a => ?_, u⟩
    · unfold Mgr.valid at v ⊢
      rw [j.vis]; exact v
    · rw [← s a]
      exact j.sem m hm a, hc⟩
/-- The changes, one after another. -/
def KeR (w : World) (p n N : Nat) (fv tv : Value) (fs : List Int) (Fs : List BF) (tvs : List Value) (M0 : Mgr) (gk : Nat) (so si : Value) (x : World) : Prop :=
  ∃ k l M L ov, k + gk = N ∧ si = .int .i64 (k : Int) ∧ ov = so ∧ DoJ w p n x M L fv tv fs Fs tvs l M0 ∧ RfV x p L ov l ∧ M.nodes.length ≤ 50000 + k * 36450008
end Go.Proofs.YtngbodmooddjbaaGreat
