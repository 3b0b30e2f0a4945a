/-
  Walks: 'Shaped' of the package netverifylaw26; the order of the variables is kept by all operations.
-/
import Derived.Test.YtngbodmooddjbaaW10
import Derived.Test.YtngbodmooddjbaaRefV
import Derived.Test.YtngbodmooddjbaaOrder
import Derived.Test.YtngbodmooddjbaaFront
import Derived.Deep.RegionHeld3
namespace Go.Proofs.Ytngbodmooddjbaa
open Go.RowKit

/-- What 'Top' returns. -/
def topV (M : Mgr) (f : Int) : Value := if M.valid f = true ∧ 2 ≤ f.toNat then .tuple #[.int .i64 (M.nd f.toNat).1, .int .i64 ((M.nd f.toNat).2.1 : Int), .int .i64 ((M.nd f.toNat).2.2 : Int), .bool true] else .tuple #[.int .i64 0, .int .i64 0, .int .i64 0, .bool false]
def topM (M : Mgr) (f : Int) : Mgr := if M.valid f = true ∧ 2 ≤ f.toNat then (M.show (M.nd f.toNat).2.1).show (M.nd f.toNat).2.2 else M

theorem Mgr.show_stored {M : Mgr} {f g : Nat} (h : M.stored g) : (M.show f).stored g := h

structure TpJ (w : World) (p : Nat) (L0 : Lay) (x : World) (M : Mgr) (L : Lay) (b : Nat) (v : Int) (lo hi : Nat) : Prop where
  sd : Sd w p L0 x M L
  bx : x.heap[b]? = some (box3 v lo hi)
  nb : ¬ L.at p b
theorem TpJ.no {w : World} {p : Nat} {L0 : Lay} {x y : World} {M : Mgr} {L : Lay} {b : Nat} {v : Int} {lo hi : Nat} (j : TpJ w p L0 x M L b v lo hi) (k : Kp No x y) : TpJ w p L0 y M L b v lo hi := ⟨j.sd.no k, by rw [k.block _ (heap_lt j.bx) (fun z => z)]; exact j.bx, j.nb⟩
theorem TpJ.step {w : World} {p : Nat} {L0 : Lay} {x y : World} {M M' : Mgr} {L : Lay} {b : Nat} {v : Int} {lo hi : Nat} {u : Value} {e : Ending} (j : TpJ w p L0 x M L b v lo hi) (h : Ret p L x M' u e y) : e = .returned u ∧ ∃ L', TpJ w p L0 y M' L' b v lo hi := by
  obtain ⟨L', he, r, k, f⟩ := h
  refine ⟨he, L', ⟨r, j.sd.kp.trans j.sd.fr k, fun z hz => ?_⟩, by rw [k.block b (heap_lt j.bx) j.nb]; exact j.bx, fun hx => ?_⟩
  · rcases f z hz with h1 | h1
    · exact j.sd.fr z h1
    · right; have := j.sd.kp.size; omega
  · rcases f b hx with h1 | h1
    · exact j.nb h1
    · have := heap_lt j.bx; omega
theorem TpJ.cells {w : World} {p : Nat} {L0 : Lay} {x : World} {M : Mgr} {L : Lay} {b : Nat} {v : Int} {lo hi : Nat} (j : TpJ w p L0 x M L b v lo hi) : x.cell? ⟨b, 0, none⟩ = some (.int .i64 v) ∧ x.cell? ⟨b, 1, none⟩ = some (.int .i64 (lo : Int)) ∧ x.cell? ⟨b, 2, none⟩ = some (.int .i64 (hi : Int)) := by
  refine ⟨?_, ?_, ?_⟩ <;> simp [World.cell?, j.bx]

end Go.Proofs.Ytngbodmooddjbaa

namespace Go.Proofs.Ytngbodmooddjbaa
open Go.RowKit

namespace Mgr
theorem put_order (M : Mgr) (v lo hi : Nat) : (M.put v lo hi).1.order = M.order ∧ (M.put v lo hi).1.level = M.level := by
  unfold put
  split
  · exact ⟨rfl, rfl⟩
  · split
    · exact ⟨rfl, rfl⟩
    · split <;> exact ⟨rfl, rfl⟩
theorem build_order : ∀ (k : Nat) (M : Mgr) (F : BF), (build k M F).1.order = M.order ∧ (build k M F).1.level = M.level
  | 0, _, _ => ⟨rfl, rfl⟩
  | k + 1, M, F => by
    unfold build
    simp only
    obtain ⟨a1, a2⟩ := put_order (build k (build k M fun a => F (upd a (M.ord (M.n - (k + 1))) false)).1 fun a => F (upd a (M.ord (M.n - (k + 1))) true)).1 (M.ord (M.n - (k + 1))) (build k M fun a => F (upd a (M.ord (M.n - (k + 1))) false)).2 (build k (build k M fun a => F (upd a (M.ord (M.n - (k + 1))) false)).1 fun a => F (upd a (M.ord (M.n - (k + 1))) true)).2
    obtain ⟨b1, b2⟩ := build_order k (build k M fun a => F (upd a (M.ord (M.n - (k + 1))) false)).1 (fun a => F (upd a (M.ord (M.n - (k + 1))) true))
    obtain ⟨c1, c2⟩ := build_order k M (fun a => F (upd a (M.ord (M.n - (k + 1))) false))
    exact ⟨a1.trans (b1.trans c1), a2.trans (b2.trans c2)⟩
theorem show_order (M : Mgr) (f : Nat) : (M.show f).order = M.order ∧ (M.show f).level = M.level := ⟨rfl, rfl⟩
theorem iteM_order (M : Mgr) (f g h : Int) : (M.iteM f g h).1.order = M.order := by
  unfold iteM; split
  · exact (build_order _ _ _).1
  · rfl
theorem xorM_order (M : Mgr) (f g : Int) : (M.xorM f g).1.order = M.order := by
  unfold xorM; split
  · exact (build_order _ _ _).1.trans (build_order _ _ _).1
  · rfl
theorem varM_order (M : Mgr) (v : Int) : (M.varM v).1.order = M.order := by
  unfold varM; split
  · exact (put_order _ _ _ _).1
  · rfl
theorem restrictM_order (M : Mgr) (f v : Int) (b : Bool) : (M.restrictM f v b).1.order = M.order := by
  unfold restrictM; split
  · exact (build_order _ _ _).1
  · rfl
end Mgr
theorem opM_order (n : Nat) (M : Mgr) (fs : List Int) (s : Stp) : (opM n M fs s).1.order = M.order := by
  have hN : ∀ f, (M.notM f).1.order = M.order := fun f => M.iteM_order f 0 1
  unfold opM
  simp only
  repeat' split
  · exact (Mgr.iteM_order _ _ _ _).trans (hN _)
  · exact (Mgr.iteM_order _ _ _ _).trans (hN _)
  · exact (Mgr.xorM_order _ _ _).trans (hN _)
  · exact (Mgr.iteM_order _ _ _ _).trans (hN _)
  · exact (Mgr.restrictM_order _ _ _ _).trans (hN _)
  · exact hN _
theorem varsM_order (M : Mgr) : ∀ k, (varsM M k).1.order = M.order
  | 0 => rfl
  | k + 1 => (Mgr.varM_order _ _).trans (varsM_order M k)
theorem runM_order (M : Mgr) (n : Nat) (l : List Stp) : (runM M n l).1.order = M.order := by
  have : ∀ (l : List Stp) (S : Mgr × List Int), (l.foldl (stepM n) S).1.order = S.1.order := by
    intro l
    induction l with
    | nil => intro S; rfl
    | cons s l ih => intro S; rw [List.foldl_cons, ih]; exact opM_order n S.1 S.2 s
  exact (this l _).trans (varsM_order M n)

/-- What 'Top' leaves. -/
theorem topM_same {M : Mgr} (h : M.WF) (f : Int) : (topM M f).WF ∧ (topM M f).order = M.order ∧ (topM M f).nodes = M.nodes ∧ (∀ g, (topM M f).nd g = M.nd g) ∧ (∀ g a, (topM M f).sem g a = M.sem g a) ∧ (∀ g, M.valid g = true → (topM M f).valid g = true) ∧ (∀ g, (topM M f).stored g ↔ M.stored g) ∧
    (M.valid f = true → 2 ≤ f.toNat → (topM M f).valid ((M.nd f.toNat).2.1 : Int) = true ∧ (topM M f).valid ((M.nd f.toNat).2.2 : Int) = true) := by
  unfold topM
  split
  · rename_i hx
    obtain ⟨n, rfl, sn, _⟩ := Mgr.valid_nat h hx.1
    rw [Int.toNat_natCast] at hx ⊢
    obtain ⟨_, _, sl, sh, _⟩ := Mgr.node_of h sn hx.2
    have l1 : (M.nd n).2.1 < M.shown.length := by rw [h.sh]; exact M.stored_lt h sl
    have l2 : (M.nd n).2.2 < (M.show (M.nd n).2.1).shown.length := by rw [show (M.show (M.nd n).2.1).shown.length = M.shown.length from by simp [Mgr.show], h.sh]; exact M.stored_lt h sh
    have w1 := Mgr.show_wf h sl
    have w2 := Mgr.show_wf w1 (Mgr.show_stored sh)
    refine ⟨w2, rfl, rfl, fun _ => rfl, fun g a => by rw [Mgr.show_sem, Mgr.show_sem], fun g hg => ?_, fun g => Iff.rfl, fun _ _ => ⟨?_, ?_⟩⟩
    · unfold Mgr.valid at hg ⊢
      simp only [Bool.and_eq_true, decide_eq_true_eq] at hg ⊢
      refine ⟨hg.1, ?_⟩
      rw [Mgr.vis_show _ _ _ l2, Mgr.vis_show _ _ _ l1, hg.2]
      simp
    · unfold Mgr.valid
      rw [Int.toNat_natCast, Mgr.vis_show _ _ _ l2, Mgr.vis_show _ _ _ l1]
      simp
    · unfold Mgr.valid
      rw [Int.toNat_natCast, Mgr.vis_show _ _ _ l2]
      simp
  · rename_i hx
    exact ⟨h, rfl, rfl, fun _ => rfl, fun _ _ => rfl, fun g hg => hg, fun g => Iff.rfl, fun h1 h2 => (hx ⟨h1, h2⟩).elim⟩

/-- A row of naturals reads as integers. -/
theorem nats_src {w : World} {B e : Nat} {v : Value} {l : List Nat} (h : w.ownsRow B e 1 v l.length (l.map natV)) : SrcAt w v 1 (l.map fun x : Nat => (x : Int)).length ((l.map fun x : Nat => (x : Int)).map intV) := by
  have := SrcAt.of_row h
  rw [List.length_map, List.map_map]
  exact this

theorem tabsV_one {M : Mgr} {w : World} {tv : Value} {B f : Nat} (ht : Tb B w tv (tab M.n (M.sem f))) : TabsV M (w.alloc (.cells #[tv] 45)) (.slice (some ⟨w.heap.size, 0, none⟩) 1 1) [tv] [f] := by
  refine ⟨⟨_, _, rfl, rfl, .inr ⟨w.heap.size, 0, rfl, by simp, fun j u hu => ?_⟩⟩, rfl, fun i hi => ?_⟩
  · match j, hu with
    | 0, hu =>
      simp at hu
      subst hu
      have h := heap_alloc_new w (.cells #[tv] 45)
      unfold World.cell?
      simp only [h]
      rfl
    | j + 1, hu => simp at hu
  · have : i = 0 := by simpa using hi
    subst this
    exact (ht.no (Kp.alloc _)).mono (Nat.zero_le _)

end Go.Proofs.Ytngbodmooddjbaa
