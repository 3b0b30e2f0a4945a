/-
  Walks: the law ReorderRefuses.
-/
import Derived.Test.YtngbodmooddjbaaGreatPlb
namespace Go.Proofs.YtngbodmooddjbaaGreat
open Go.RowKit

theorem Place_any {l1 : List Nat} (hp : PermL l1) (hl : l1.length ≤ 6) (v lv : Int) : ∃ (b : Bool) (l2 : List Nat), l2.length = l1.length ∧ PermL l2 ∧
    (∀ {w : World} {ov : Value}, SrcAt w ov 1 l1.length (l1.map natV) → Calls Tryz.prog 39 #[ov, .int .i64 v, .int .i64 lv] w (RplPost w ov l1 l2 b)) ∧
    (∀ {w : World} {p : Nat} {M : Mgr} {L : Lay}, Rep w p M L → M.order = l1 → (visF M).length ≤ 50000 → M.nodes.length ≤ 500000000 → Calls Tryz.prog 40 #[ptr p, .int .i64 v, .int .i64 lv] w fun e w' => e = .returned (.bool b) ∧ ArS w p M L l2 w') := by
  by_cases h : (0 ≤ v ∧ v < l1.length) ∧ 0 ≤ lv ∧ lv < l1.length
  · obtain ⟨v', rfl⟩ := Int.eq_ofNat_of_zero_le h.1.1
    obtain ⟨lv', rfl⟩ := Int.eq_ofNat_of_zero_le h.2.1
    have hv : v' < l1.length := by have := h.1.2; omega
    have hlv : lv' < l1.length := by have := h.2.2; omega
    obtain ⟨k, hk, ek⟩ := List.getElem_of_mem (hp.has hv)
    have ek' : l1.getD k 0 = v' := by rw [List.getD_eq_getElem?_getD, List.getElem?_eq_getElem hk, ek]; rfl
    refine ⟨true, plO l1 k lv' v', plO_len hk, hp.pl hk ek, fun s => RefPlace_ok v' lv' k s (by omega) hv hlv hp.1 hk ek, fun {w p M L} R e hvis hm => ?_⟩
    have en : M.n = l1.length := by unfold Mgr.n; rw [e]
    refine (Place_ok v' lv' R (by omega) (by omega) (by omega) (by have := ar_bound (M := M) (by omega) hvis; unfold big; omega) (by omega)).mono ?_
    rintro e2 w' ⟨rfl, k', hk', ek2, a⟩
    rw [e] at hk' ek2 a
    obtain rfl : k' = k := hp.inj hk' hk (by rw [ek2, ek'])
    exact ⟨rfl, a⟩
  · refine ⟨false, l1, rfl, hp, fun s => RefPlace_bad v lv s (by omega) h, fun {w p M L} R e _ _ => ?_⟩
    have en : M.n = l1.length := by unfold Mgr.n; rw [e]
    refine (Place_bad v lv R (by omega) (by rw [en]; exact h)).mono ?_
    rintro e2 w' ⟨rfl, k⟩
    refine ⟨rfl, ?_⟩
    rw [← e]
    exact ArS.same R k

/-- A list of one's own beside the manager. -/
structure RfV (y : World) (p : Nat) (L : Lay) (v : Value) (r : List Nat) : Prop where
  src : SrcAt y v 1 r.length (r.map natV)
  pos : 0 < r.length
  off : ∀ g o n c, v = .slice (some ⟨g, o, none⟩) n c → ¬ L.at p g
  row : y.ownsRow 0 3 1 v r.length (r.map natV)
theorem RfV.own {y : World} {p : Nat} {L : Lay} {v : Value} {r : List Nat} (s : RfV y p L v r) : ∀ k, v.ownBlock = some k → ¬ L.at p k := fun k e => by
  obtain ⟨g, cap, hv, _⟩ := ownsRow_open s.row s.pos
  have h := s.off g _ _ _ hv
  rw [hv] at e
  simp [Value.ownBlock] at e
  rw [← e]; exact h
theorem RfV.lt {y : World} {p : Nat} {L : Lay} {v : Value} {r : List Nat} (s : RfV y p L v r) : ∀ g o n c, v = .slice (some ⟨g, o, none⟩) n c → g < y.heap.size := fun g o n c e => by
  obtain ⟨g', o', c', e', hl, _⟩ := s.src.cellAt s.pos
  rw [e] at e'
  cases e'
  exact hl
theorem RfV.no {y z : World} {p : Nat} {L : Lay} {v : Value} {r : List Nat} (s : RfV y p L v r) (k : Kp No y z) : RfV z p L v r := ⟨s.src.no k, s.pos, s.off, ownsRow_kp s.row k (fun _ _ h => h)⟩
theorem RfV.ar {y z : World} {p : Nat} {L L' : Lay} {v : Value} {r : List Nat} (s : RfV y p L v r) (k : Kp (L.at p) y z) (f : ∀ x, L'.at p x → L.at p x ∨ y.heap.size ≤ x) : RfV z p L' v r :=
  ⟨s.src.kp k (fun _ g o m c e => s.off g o m c e), s.pos, fun g o n c e h => by
    rcases f g h with h1 | h1
    · exact s.off g o n c e h1
    · have := s.lt g o n c e; omega, ownsRow_kp s.row k s.own⟩
theorem RfV.sub {y z : World} {p : Nat} {L : Lay} {v v' : Value} {r r' : List Nat} (s : RfV y p L v r) (hL : ∀ x, L.at p x → x < y.heap.size) (h : SrcAt z v' 1 r'.length (r'.map natV)) (hr : 0 < r'.length) (o : OffR y z v v' r r') (hl : r'.length = r.length) : RfV z p L v' r' :=
  ⟨h, hr, fun g a n c e hg => by
    rcases o.1 g a n c e with h1 | ⟨o', n', c', h1⟩
    · have := hL g hg; omega
    · exact s.off g o' n' c' h1 hg, by rw [hl]; exact o.2 s.row⟩
theorem SrcAt.toI {w : World} {v : Value} {l : List Nat} (h : SrcAt w v 1 l.length (l.map natV)) : SrcAt w v 1 (l.map Int.ofNat).length ((l.map Int.ofNat).map intV) := by
  rw [List.map_map, List.length_map]; exact h
end Go.Proofs.YtngbodmooddjbaaGreat
