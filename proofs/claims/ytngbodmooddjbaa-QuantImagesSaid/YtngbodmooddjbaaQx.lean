/-
  Walks: 'newQuantifier' of the package quant.
-/
import Derived.Test.YtngbodmooddjbaaQp
import Derived.Test.YtngbodmooddjbaaRunJ
import Derived.Deep.RegionWith
namespace Go.Proofs.Ytngbodmooddjbaa
open Go.RowKit

theorem row_full {w : World} {b e n g : Nat} {xs : List Value} (h : w.ownsRow b e 1 (.slice (some ⟨g, 0, none⟩) n n) n xs) : w.heap[g]? = some (.cells xs.toArray e (0, 0)) := by
  rcases h.2 with ⟨hx, _⟩ | ⟨g', cap', cur, hv, hb, hg, h1, h2, h3, h4⟩
  · cases hx
  · cases hv
    have e1 : cur.toList.take (n * 1) = cur.toList := List.take_of_length_le (by rw [Array.length_toList]; omega)
    rw [e1] at h4
    rw [hg, ← h4]

/-- The state while a quantifier is made. -/
structure NqJ (w : World) (p n : Nat) (lev : Nat → Nat) (Q : QL) (l : List Nat) (x : World) : Prop where
  inr : x.ownsRow w.heap.size 4 1 (.slice (some ⟨Q.gi, 0, none⟩) n n) n (InRow n l)
  str : x.heap[Q.bq]? = some (.cells #[ptr p, .slice (some ⟨Q.gi, 0, none⟩) n n, .slice (some ⟨Q.gl, 0, none⟩) n n, .int .i64 Q.last, .map (some Q.bs)] 157 (0, 0))
  lvr : x.heap[Q.gl]? = some (.cells ((List.range n).map fun v => natV (lev v)).toArray 3 (0, 0))
  mp : x.heap[Q.bs]? = some (.map #[] 0)
  kp : Kp No w x
  nq : w.heap.size ≤ Q.bq
  ns : w.heap.size ≤ Q.bs
  nl : w.heap.size ≤ Q.gl
  la : ∀ v, v ∈ l → (lev v : Int) ≤ Q.last

theorem NqJ.make {w x : World} {p n bq bs gi gl : Nat} {lev : Nat → Nat} (hbq : bq = x.heap.size) (hi : ∃ b, w.heap.size ≤ b ∧ x.ownsRow b 4 1 (.slice (some ⟨gi, 0, none⟩) n n) n (InRow n []))
    (hl : ∃ b, w.heap.size ≤ b ∧ x.ownsRow b 3 1 (.slice (some ⟨gl, 0, none⟩) n n) n ((List.range n).map fun v => natV (lev v))) (hm : x.heap[bs]? = some (.map #[] 0)) (ns : w.heap.size ≤ bs) (k : Kp No w x) :
    NqJ w p n lev ⟨bq, bs, gi, gl, -1⟩ [] (x.alloc (.cells #[ptr p, .slice (some ⟨gi, 0, none⟩) n n, .slice (some ⟨gl, 0, none⟩) n n, .int .i64 (-1), .map (some bs)] 157)) := by
  obtain ⟨b1, hb1, r1⟩ := hi
  obtain ⟨b2, hb2, r2⟩ := hl
  have ka := Kp.alloc (w := x) (.cells #[ptr p, .slice (some ⟨gi, 0, none⟩) n n, .slice (some ⟨gl, 0, none⟩) n n, .int .i64 (-1), .map (some bs)] 157)
  refine ⟨ownsRow_mono (ownsRow_kp r1 ka (fun _ _ z => z)) hb1, ?_, row_full (ownsRow_kp r2 ka (fun _ _ z => z)), ?_, k.trans_no ka, ?_, ns, ?_, fun v hv => by cases hv⟩
  · rw [hbq]; exact heap_alloc_new _ _
  · rw [ka.block _ (heap_lt hm) (fun z => z)]; exact hm
  · show w.heap.size ≤ bq
    have := k.size; omega
  · have := (r2.lt gl rfl).1
    show w.heap.size ≤ gl
    omega

theorem NqJ.no {w x y : World} {p n : Nat} {lev : Nat → Nat} {Q : QL} {l : List Nat} (j : NqJ w p n lev Q l x) (k : Kp No x y) : NqJ w p n lev Q l y :=
  ⟨ownsRow_kp j.inr k (fun _ _ z => z), by rw [k.block _ (heap_lt j.str) (fun z => z)]; exact j.str, by rw [k.block _ (heap_lt j.lvr) (fun z => z)]; exact j.lvr, by rw [k.block _ (heap_lt j.mp) (fun z => z)]; exact j.mp, j.kp.trans_no k, j.nq, j.ns, j.nl, j.la⟩
theorem NqJ.put {w x : World} {p n v : Nat} {lev : Nat → Nat} {Q : QL} {l : List Nat} (j : NqJ w p n lev Q l x) : NqJ w p n lev { Q with last := if (lev v : Int) ≤ Q.last then Q.last else (lev v : Int) } (l ++ [v]) ((x.setCell ⟨Q.gi, v, none⟩ (.bool true)).setCell ⟨Q.bq, 3, none⟩ (.int .i64 (if (lev v : Int) ≤ Q.last then Q.last else (lev v : Int)))) := by
  have hi := row_full j.inr
  have hgi := (j.inr.lt Q.gi rfl).1
  have n1 : Q.gi ≠ Q.bq := fun e => by have := j.str; rw [← e, hi] at this; simp at this
  have n2 : Q.gl ≠ Q.bq := fun e => by have := j.str; rw [← e, j.lvr] at this; simp at this
  have n3 : Q.gl ≠ Q.gi := fun e => by have := hi; rw [← e, j.lvr] at this; simp at this
  have n4 : Q.bs ≠ Q.bq := fun e => by have := j.str; rw [← e, j.mp] at this; simp at this
  have n5 : Q.bs ≠ Q.gi := fun e => by have := hi; rw [← e, j.mp] at this; simp at this
  refine ⟨?_, ?_, ?_, ?_, ?_, j.nq, j.ns, j.nl, ?_⟩
  · have := ownsRow_put j.inr v (.bool true)
    rw [InRow_set] at this
    exact ownsRow_kp this (Kp.setCell _ _) (fun b hb e => by injection hb with hb; exact n1 (hb.trans e))
  · have : (x.setCell ⟨Q.gi, v, none⟩ (.bool true)).heap[Q.bq]? = some (.cells #[ptr p, .slice (some ⟨Q.gi, 0, none⟩) n n, .slice (some ⟨Q.gl, 0, none⟩) n n, .int .i64 Q.last, .map (some Q.bs)] 157 (0, 0)) := by
      rw [Below.heap_setCell _ _ _ _ (fun e => n1 e.symm)]; exact j.str
    rw [setCell_heap this]; rfl
  · rw [Below.heap_setCell _ _ _ _ n2, Below.heap_setCell _ _ _ _ n3]; exact j.lvr
  · rw [Below.heap_setCell _ _ _ _ n4, Below.heap_setCell _ _ _ _ n5]; exact j.mp
  · refine (j.kp.trans (A' := fun b => b = Q.gi) (fun b e => .inr (by omega)) ((Kp.setCell _ _).mono (fun _ _ e => e))).trans (A' := fun b => b = Q.bq) (fun b e => .inr (by have := j.nq; omega)) ((Kp.setCell _ _).mono (fun _ _ e => e))
  · intro u hu
    show (lev u : Int) ≤ if (lev v : Int) ≤ Q.last then Q.last else (lev v : Int)
    rcases List.mem_append.1 hu with hu | hu
    · have := j.la u hu
      split <;> omega
    · rw [List.mem_singleton] at hu
      subst hu
      split <;> omega

/-- What 'newQuantifier' leaves. -/
def NqPost (w : World) (p n : Nat) (lev : Nat → Nat) (l : List Nat) (e : Ending) (w' : World) : Prop := ∃ Q, e = .returned (ptr (QL.bq Q)) ∧ NqJ w p n lev Q l w'

def NqR (w : World) (p n : Nat) (lev : Nat → Nat) (bq : Nat) (l : List Nat) (gk : Nat) (s : Value) (x : World) : Prop := ∃ i Q, i + gk = l.length ∧ s = .int .i64 (i : Int) ∧ QL.bq Q = bq ∧ NqJ w p n lev Q (l.take i) x

set_option maxRecDepth 100000 in
set_option maxHeartbeats 4000000 in
theorem newQuantifier_ok {p : Nat} {M : Mgr} {L : Lay} (l : List Nat) (hl : l.length ≤ 1000000) (hlv : ∀ v, v ∈ l → v < M.n) {dv : Value} {w : World} (R : Rep w p M L) (hn : M.n ≤ 256) (hd : SrcAt w dv 1 l.length (l.map natV)) :
    Calls Try.prog 54 #[ptr p, dv] w (NqPost w p M.n M.lev l) := by
  have VARS := Lib.hid (fun (y : World) (ky : Kp No w y) => vars_ok (R.no ky))
  unfold natV at VARS
  have LEV := Lib.hid (fun (y : World) (ky : Kp No w y) => levels_ok (R.no ky) hn)
  obtain ⟨mk, hmk⟩ := Classical.axiomOfChoice (fun (W : World) => InJ.start W M.n hn)
  have mk1 := fun W => (hmk W).1
  have MK := Lib.hid (fun W => (hmk W).2.out)
  have hmm := @run_makeMap Try.prog
  have HD : Hid (∀ y, Kp No w y → SrcAt y dv 1 l.length (l.map natV)) := Lib.hid (fun y ky => hd.no ky)
  have HV := Lib.hid hlv
  have LVN := Lib.hid (fun u (hu : u < M.n) => (R.wf.ol u hu).1)
  obtain ⟨ao, cp, rfl⟩ := hd.form
  have hli : (l.length : Int) ≤ 1000000 := by omega
  clear hmk R hd hlv
  go_enter Try.func54, Try.ntmps54
  go_upto_region 1 with fail
  go_cut [5] (fun s5 x => ∃ Q, s5 = ptr (QL.bq Q) ∧ NqJ w p M.n M.lev Q [] x)
  case first =>
    go_region_with (first | (go_at_call 57; refine (VARS.out _ ?_).mono ?_; (repeat' (first | exact Kp.refl _ _ | (refine Kp.trans_no ?_ (MK.out _).kp) | (refine Kp.trans_no ?_ (Kp.alloc _)) | (refine Kp.trans_no ?_ Kp.drew) | (refine Kp.trans_no ?_ k2))); rintro e w' ⟨rfl, rfl⟩) | (go_at_call 94; refine (LEV.out _ ?_).mono ?_; (repeat' (first | exact Kp.refl _ _ | (refine Kp.trans_no ?_ (MK.out _).kp) | (refine Kp.trans_no ?_ (Kp.alloc _)) | (refine Kp.trans_no ?_ Kp.drew) | (refine Kp.trans_no ?_ k2))); rintro e w2 ⟨g2, rfl, row2, k2⟩))
    · clear VARS LEV mk1 hmm HD HV LVN
      go_wp2_with fail
      go_meet
      case rel => exact ⟨⟨_, _, _, _, -1⟩, rfl, NqJ.make (x := (World.alloc w2 (.map #[] 0))) (by simp) ⟨_, (show Kp No w w.drew from (by (repeat' (first | exact Kp.refl _ _ | (refine Kp.trans_no ?_ (MK.out _).kp) | (refine Kp.trans_no ?_ (Kp.alloc _)) | (refine Kp.trans_no ?_ Kp.drew) | (refine Kp.trans_no ?_ k2))))).size, ownsRow_kp (MK.out w.drew).row (show Kp No (mk w.drew) (World.alloc w2 (.map #[] 0)) from by (repeat' (first | exact Kp.refl _ _ | (refine Kp.trans_no ?_ (MK.out _).kp) | (refine Kp.trans_no ?_ (Kp.alloc _)) | (refine Kp.trans_no ?_ Kp.drew) | (refine Kp.trans_no ?_ k2)))) (fun _ _ z => z)⟩ ⟨_, (show Kp No w (mk w.drew) from (by (repeat' (first | exact Kp.refl _ _ | (refine Kp.trans_no ?_ (MK.out _).kp) | (refine Kp.trans_no ?_ (Kp.alloc _)) | (refine Kp.trans_no ?_ Kp.drew) | (refine Kp.trans_no ?_ k2))))).size, ownsRow_kp row2 (show Kp No w2 (World.alloc w2 (.map #[] 0)) from by (repeat' (first | exact Kp.refl _ _ | (refine Kp.trans_no ?_ (MK.out _).kp) | (refine Kp.trans_no ?_ (Kp.alloc _)) | (refine Kp.trans_no ?_ Kp.drew) | (refine Kp.trans_no ?_ k2)))) (fun _ _ z => z)⟩ (by have h : (World.alloc w2 (.map #[] 0)).heap[World.heap w2 |>.size]? = some (.map #[] 0) := heap_alloc_new _ _; rw [← (show Kp No (World.alloc w2 (.map #[] 0)) (World.alloc w2 (.map #[] 0)) from by (repeat' (first | exact Kp.refl _ _ | (refine Kp.trans_no ?_ (MK.out _).kp) | (refine Kp.trans_no ?_ (Kp.alloc _)) | (refine Kp.trans_no ?_ Kp.drew) | (refine Kp.trans_no ?_ k2)))).block _ (heap_lt h) (fun z => z)] at h; exact h) ((show Kp No w w2 from (by (repeat' (first | exact Kp.refl _ _ | (refine Kp.trans_no ?_ (MK.out _).kp) | (refine Kp.trans_no ?_ (Kp.alloc _)) | (refine Kp.trans_no ?_ Kp.drew) | (refine Kp.trans_no ?_ k2))))).size) (by (repeat' (first | exact Kp.refl _ _ | (refine Kp.trans_no ?_ (MK.out _).kp) | (refine Kp.trans_no ?_ (Kp.alloc _)) | (refine Kp.trans_no ?_ Kp.drew) | (refine Kp.trans_no ?_ k2))))⟩
    · clear VARS LEV mk1 hmm HD HV LVN
      go_wp2_with fail
      go_meet
      case rel => exact ⟨⟨_, _, _, _, -1⟩, rfl, NqJ.make (x := w2) (by simp) ⟨_, (show Kp No w w.drew from (by (repeat' (first | exact Kp.refl _ _ | (refine Kp.trans_no ?_ (MK.out _).kp) | (refine Kp.trans_no ?_ (Kp.alloc _)) | (refine Kp.trans_no ?_ Kp.drew) | (refine Kp.trans_no ?_ k2))))).size, ownsRow_kp (MK.out w.drew).row (show Kp No (mk w.drew) w2 from by (repeat' (first | exact Kp.refl _ _ | (refine Kp.trans_no ?_ (MK.out _).kp) | (refine Kp.trans_no ?_ (Kp.alloc _)) | (refine Kp.trans_no ?_ Kp.drew) | (refine Kp.trans_no ?_ k2)))) (fun _ _ z => z)⟩ ⟨_, (show Kp No w (World.alloc (mk w.drew) (.map #[] 0)) from (by (repeat' (first | exact Kp.refl _ _ | (refine Kp.trans_no ?_ (MK.out _).kp) | (refine Kp.trans_no ?_ (Kp.alloc _)) | (refine Kp.trans_no ?_ Kp.drew) | (refine Kp.trans_no ?_ k2))))).size, ownsRow_kp row2 (show Kp No w2 w2 from by (repeat' (first | exact Kp.refl _ _ | (refine Kp.trans_no ?_ (MK.out _).kp) | (refine Kp.trans_no ?_ (Kp.alloc _)) | (refine Kp.trans_no ?_ Kp.drew) | (refine Kp.trans_no ?_ k2)))) (fun _ _ z => z)⟩ (by have h : (World.alloc (mk w.drew) (.map #[] 0)).heap[World.heap (mk w.drew) |>.size]? = some (.map #[] 0) := heap_alloc_new _ _; rw [← (show Kp No (World.alloc (mk w.drew) (.map #[] 0)) w2 from by (repeat' (first | exact Kp.refl _ _ | (refine Kp.trans_no ?_ (MK.out _).kp) | (refine Kp.trans_no ?_ (Kp.alloc _)) | (refine Kp.trans_no ?_ Kp.drew) | (refine Kp.trans_no ?_ k2)))).block _ (heap_lt h) (fun z => z)] at h; exact h) ((show Kp No w (mk w.drew) from (by (repeat' (first | exact Kp.refl _ _ | (refine Kp.trans_no ?_ (MK.out _).kp) | (refine Kp.trans_no ?_ (Kp.alloc _)) | (refine Kp.trans_no ?_ Kp.drew) | (refine Kp.trans_no ?_ k2))))).size) (by (repeat' (first | exact Kp.refl _ _ | (refine Kp.trans_no ?_ (MK.out _).kp) | (refine Kp.trans_no ?_ (Kp.alloc _)) | (refine Kp.trans_no ?_ Kp.drew) | (refine Kp.trans_no ?_ k2))))⟩
    · clear VARS LEV mk1 hmm HD HV LVN
      go_wp2_with fail
      go_meet
      case rel => exact ⟨⟨_, _, _, _, -1⟩, rfl, NqJ.make (x := (World.alloc (mk w2) (.map #[] 0))) (by simp) ⟨_, (show Kp No w w2 from (by (repeat' (first | exact Kp.refl _ _ | (refine Kp.trans_no ?_ (MK.out _).kp) | (refine Kp.trans_no ?_ (Kp.alloc _)) | (refine Kp.trans_no ?_ Kp.drew) | (refine Kp.trans_no ?_ k2))))).size, ownsRow_kp (MK.out w2).row (show Kp No (mk w2) (World.alloc (mk w2) (.map #[] 0)) from by (repeat' (first | exact Kp.refl _ _ | (refine Kp.trans_no ?_ (MK.out _).kp) | (refine Kp.trans_no ?_ (Kp.alloc _)) | (refine Kp.trans_no ?_ Kp.drew) | (refine Kp.trans_no ?_ k2)))) (fun _ _ z => z)⟩ ⟨_, (show Kp No w w.drew from (by (repeat' (first | exact Kp.refl _ _ | (refine Kp.trans_no ?_ (MK.out _).kp) | (refine Kp.trans_no ?_ (Kp.alloc _)) | (refine Kp.trans_no ?_ Kp.drew) | (refine Kp.trans_no ?_ k2))))).size, ownsRow_kp row2 (show Kp No w2 (World.alloc (mk w2) (.map #[] 0)) from by (repeat' (first | exact Kp.refl _ _ | (refine Kp.trans_no ?_ (MK.out _).kp) | (refine Kp.trans_no ?_ (Kp.alloc _)) | (refine Kp.trans_no ?_ Kp.drew) | (refine Kp.trans_no ?_ k2)))) (fun _ _ z => z)⟩ (by have h : (World.alloc (mk w2) (.map #[] 0)).heap[World.heap (mk w2) |>.size]? = some (.map #[] 0) := heap_alloc_new _ _; rw [← (show Kp No (World.alloc (mk w2) (.map #[] 0)) (World.alloc (mk w2) (.map #[] 0)) from by (repeat' (first | exact Kp.refl _ _ | (refine Kp.trans_no ?_ (MK.out _).kp) | (refine Kp.trans_no ?_ (Kp.alloc _)) | (refine Kp.trans_no ?_ Kp.drew) | (refine Kp.trans_no ?_ k2)))).block _ (heap_lt h) (fun z => z)] at h; exact h) ((show Kp No w (mk w2) from (by (repeat' (first | exact Kp.refl _ _ | (refine Kp.trans_no ?_ (MK.out _).kp) | (refine Kp.trans_no ?_ (Kp.alloc _)) | (refine Kp.trans_no ?_ Kp.drew) | (refine Kp.trans_no ?_ k2))))).size) (by (repeat' (first | exact Kp.refl _ _ | (refine Kp.trans_no ?_ (MK.out _).kp) | (refine Kp.trans_no ?_ (Kp.alloc _)) | (refine Kp.trans_no ?_ Kp.drew) | (refine Kp.trans_no ?_ k2))))⟩
    · clear VARS LEV mk1 hmm HD HV LVN
      go_wp2_with fail
      go_meet
      case rel => exact ⟨⟨_, _, _, _, -1⟩, rfl, NqJ.make (x := (mk (World.alloc w2 (.map #[] 0)))) (by simp) ⟨_, (show Kp No w (World.alloc w2 (.map #[] 0)) from (by (repeat' (first | exact Kp.refl _ _ | (refine Kp.trans_no ?_ (MK.out _).kp) | (refine Kp.trans_no ?_ (Kp.alloc _)) | (refine Kp.trans_no ?_ Kp.drew) | (refine Kp.trans_no ?_ k2))))).size, by rw [show w2.heap.size + 1 = (World.heap (World.alloc w2 (.map #[] 0))).size from by simp]; exact ownsRow_kp (MK.out (World.alloc w2 (.map #[] 0))).row (show Kp No (mk (World.alloc w2 (.map #[] 0))) (mk (World.alloc w2 (.map #[] 0))) from by (repeat' (first | exact Kp.refl _ _ | (refine Kp.trans_no ?_ (MK.out _).kp) | (refine Kp.trans_no ?_ (Kp.alloc _)) | (refine Kp.trans_no ?_ Kp.drew) | (refine Kp.trans_no ?_ k2)))) (fun _ _ z => z)⟩ ⟨_, (show Kp No w w.drew from (by (repeat' (first | exact Kp.refl _ _ | (refine Kp.trans_no ?_ (MK.out _).kp) | (refine Kp.trans_no ?_ (Kp.alloc _)) | (refine Kp.trans_no ?_ Kp.drew) | (refine Kp.trans_no ?_ k2))))).size, ownsRow_kp row2 (show Kp No w2 (mk (World.alloc w2 (.map #[] 0))) from by (repeat' (first | exact Kp.refl _ _ | (refine Kp.trans_no ?_ (MK.out _).kp) | (refine Kp.trans_no ?_ (Kp.alloc _)) | (refine Kp.trans_no ?_ Kp.drew) | (refine Kp.trans_no ?_ k2)))) (fun _ _ z => z)⟩ (by have h : (World.alloc w2 (.map #[] 0)).heap[World.heap w2 |>.size]? = some (.map #[] 0) := heap_alloc_new _ _; rw [← (show Kp No (World.alloc w2 (.map #[] 0)) (mk (World.alloc w2 (.map #[] 0))) from by (repeat' (first | exact Kp.refl _ _ | (refine Kp.trans_no ?_ (MK.out _).kp) | (refine Kp.trans_no ?_ (Kp.alloc _)) | (refine Kp.trans_no ?_ Kp.drew) | (refine Kp.trans_no ?_ k2)))).block _ (heap_lt h) (fun z => z)] at h; exact h) ((show Kp No w w2 from (by (repeat' (first | exact Kp.refl _ _ | (refine Kp.trans_no ?_ (MK.out _).kp) | (refine Kp.trans_no ?_ (Kp.alloc _)) | (refine Kp.trans_no ?_ Kp.drew) | (refine Kp.trans_no ?_ k2))))).size) (by (repeat' (first | exact Kp.refl _ _ | (refine Kp.trans_no ?_ (MK.out _).kp) | (refine Kp.trans_no ?_ (Kp.alloc _)) | (refine Kp.trans_no ?_ Kp.drew) | (refine Kp.trans_no ?_ k2))))⟩
    · clear VARS LEV mk1 hmm HD HV LVN
      go_wp2_with fail
      go_meet
      case rel => exact ⟨⟨_, _, _, _, -1⟩, rfl, NqJ.make (x := w2) (by simp) ⟨_, (show Kp No w (World.drew (World.alloc w (.map #[] 0))) from (by (repeat' (first | exact Kp.refl _ _ | (refine Kp.trans_no ?_ (MK.out _).kp) | (refine Kp.trans_no ?_ (Kp.alloc _)) | (refine Kp.trans_no ?_ Kp.drew) | (refine Kp.trans_no ?_ k2))))).size, by rw [show w.heap.size + 1 = (World.heap (World.drew (World.alloc w (.map #[] 0)))).size from by simp]; exact ownsRow_kp (MK.out (World.drew (World.alloc w (.map #[] 0)))).row (show Kp No (mk (World.drew (World.alloc w (.map #[] 0)))) w2 from by (repeat' (first | exact Kp.refl _ _ | (refine Kp.trans_no ?_ (MK.out _).kp) | (refine Kp.trans_no ?_ (Kp.alloc _)) | (refine Kp.trans_no ?_ Kp.drew) | (refine Kp.trans_no ?_ k2)))) (fun _ _ z => z)⟩ ⟨_, (show Kp No w (mk (World.drew (World.alloc w (.map #[] 0)))) from (by (repeat' (first | exact Kp.refl _ _ | (refine Kp.trans_no ?_ (MK.out _).kp) | (refine Kp.trans_no ?_ (Kp.alloc _)) | (refine Kp.trans_no ?_ Kp.drew) | (refine Kp.trans_no ?_ k2))))).size, ownsRow_kp row2 (show Kp No w2 w2 from by (repeat' (first | exact Kp.refl _ _ | (refine Kp.trans_no ?_ (MK.out _).kp) | (refine Kp.trans_no ?_ (Kp.alloc _)) | (refine Kp.trans_no ?_ Kp.drew) | (refine Kp.trans_no ?_ k2)))) (fun _ _ z => z)⟩ (by have h : (World.alloc w (.map #[] 0)).heap[World.heap w |>.size]? = some (.map #[] 0) := heap_alloc_new _ _; rw [← (show Kp No (World.alloc w (.map #[] 0)) w2 from by (repeat' (first | exact Kp.refl _ _ | (refine Kp.trans_no ?_ (MK.out _).kp) | (refine Kp.trans_no ?_ (Kp.alloc _)) | (refine Kp.trans_no ?_ Kp.drew) | (refine Kp.trans_no ?_ k2)))).block _ (heap_lt h) (fun z => z)] at h; exact h) ((Nat.le_refl _)) (by (repeat' (first | exact Kp.refl _ _ | (refine Kp.trans_no ?_ (MK.out _).kp) | (refine Kp.trans_no ?_ (Kp.alloc _)) | (refine Kp.trans_no ?_ Kp.drew) | (refine Kp.trans_no ?_ k2))))⟩
    · clear VARS LEV mk1 hmm HD HV LVN
      go_wp2_with fail
      go_meet
      case rel => exact ⟨⟨_, _, _, _, -1⟩, rfl, NqJ.make (x := (mk w2)) (by simp) ⟨_, (show Kp No w w2 from (by (repeat' (first | exact Kp.refl _ _ | (refine Kp.trans_no ?_ (MK.out _).kp) | (refine Kp.trans_no ?_ (Kp.alloc _)) | (refine Kp.trans_no ?_ Kp.drew) | (refine Kp.trans_no ?_ k2))))).size, ownsRow_kp (MK.out w2).row (show Kp No (mk w2) (mk w2) from by (repeat' (first | exact Kp.refl _ _ | (refine Kp.trans_no ?_ (MK.out _).kp) | (refine Kp.trans_no ?_ (Kp.alloc _)) | (refine Kp.trans_no ?_ Kp.drew) | (refine Kp.trans_no ?_ k2)))) (fun _ _ z => z)⟩ ⟨_, (show Kp No w (World.drew (World.alloc w (.map #[] 0))) from (by (repeat' (first | exact Kp.refl _ _ | (refine Kp.trans_no ?_ (MK.out _).kp) | (refine Kp.trans_no ?_ (Kp.alloc _)) | (refine Kp.trans_no ?_ Kp.drew) | (refine Kp.trans_no ?_ k2))))).size, ownsRow_kp row2 (show Kp No w2 (mk w2) from by (repeat' (first | exact Kp.refl _ _ | (refine Kp.trans_no ?_ (MK.out _).kp) | (refine Kp.trans_no ?_ (Kp.alloc _)) | (refine Kp.trans_no ?_ Kp.drew) | (refine Kp.trans_no ?_ k2)))) (fun _ _ z => z)⟩ (by have h : (World.alloc w (.map #[] 0)).heap[World.heap w |>.size]? = some (.map #[] 0) := heap_alloc_new _ _; rw [← (show Kp No (World.alloc w (.map #[] 0)) (mk w2) from by (repeat' (first | exact Kp.refl _ _ | (refine Kp.trans_no ?_ (MK.out _).kp) | (refine Kp.trans_no ?_ (Kp.alloc _)) | (refine Kp.trans_no ?_ Kp.drew) | (refine Kp.trans_no ?_ k2)))).block _ (heap_lt h) (fun z => z)] at h; exact h) ((Nat.le_refl _)) (by (repeat' (first | exact Kp.refl _ _ | (refine Kp.trans_no ?_ (MK.out _).kp) | (refine Kp.trans_no ?_ (Kp.alloc _)) | (refine Kp.trans_no ?_ Kp.drew) | (refine Kp.trans_no ?_ k2))))⟩
    · clear VARS LEV mk1 hmm HD HV LVN
      go_wp2_with fail
      go_meet
      case rel => exact ⟨⟨_, _, _, _, -1⟩, rfl, NqJ.make (x := w2) (by simp) ⟨_, (show Kp No w (World.drew (World.alloc w (.map #[] 0))) from (by (repeat' (first | exact Kp.refl _ _ | (refine Kp.trans_no ?_ (MK.out _).kp) | (refine Kp.trans_no ?_ (Kp.alloc _)) | (refine Kp.trans_no ?_ Kp.drew) | (refine Kp.trans_no ?_ k2))))).size, by rw [show w.heap.size + 1 = (World.heap (World.drew (World.alloc w (.map #[] 0)))).size from by simp]; exact ownsRow_kp (MK.out (World.drew (World.alloc w (.map #[] 0)))).row (show Kp No (mk (World.drew (World.alloc w (.map #[] 0)))) w2 from by (repeat' (first | exact Kp.refl _ _ | (refine Kp.trans_no ?_ (MK.out _).kp) | (refine Kp.trans_no ?_ (Kp.alloc _)) | (refine Kp.trans_no ?_ Kp.drew) | (refine Kp.trans_no ?_ k2)))) (fun _ _ z => z)⟩ ⟨_, (show Kp No w (mk (World.drew (World.alloc w (.map #[] 0)))) from (by (repeat' (first | exact Kp.refl _ _ | (refine Kp.trans_no ?_ (MK.out _).kp) | (refine Kp.trans_no ?_ (Kp.alloc _)) | (refine Kp.trans_no ?_ Kp.drew) | (refine Kp.trans_no ?_ k2))))).size, ownsRow_kp row2 (show Kp No w2 w2 from by (repeat' (first | exact Kp.refl _ _ | (refine Kp.trans_no ?_ (MK.out _).kp) | (refine Kp.trans_no ?_ (Kp.alloc _)) | (refine Kp.trans_no ?_ Kp.drew) | (refine Kp.trans_no ?_ k2)))) (fun _ _ z => z)⟩ (by have h : (World.alloc w (.map #[] 0)).heap[World.heap w |>.size]? = some (.map #[] 0) := heap_alloc_new _ _; rw [← (show Kp No (World.alloc w (.map #[] 0)) w2 from by (repeat' (first | exact Kp.refl _ _ | (refine Kp.trans_no ?_ (MK.out _).kp) | (refine Kp.trans_no ?_ (Kp.alloc _)) | (refine Kp.trans_no ?_ Kp.drew) | (refine Kp.trans_no ?_ k2)))).block _ (heap_lt h) (fun z => z)] at h; exact h) ((Nat.le_refl _)) (by (repeat' (first | exact Kp.refl _ _ | (refine Kp.trans_no ?_ (MK.out _).kp) | (refine Kp.trans_no ?_ (Kp.alloc _)) | (refine Kp.trans_no ?_ Kp.drew) | (refine Kp.trans_no ?_ k2))))⟩
    · clear VARS LEV mk1 hmm HD HV LVN
      go_wp2_with fail
      go_meet
      case rel => exact ⟨⟨_, _, _, _, -1⟩, rfl, NqJ.make (x := (mk w2)) (by simp) ⟨_, (show Kp No w w2 from (by (repeat' (first | exact Kp.refl _ _ | (refine Kp.trans_no ?_ (MK.out _).kp) | (refine Kp.trans_no ?_ (Kp.alloc _)) | (refine Kp.trans_no ?_ Kp.drew) | (refine Kp.trans_no ?_ k2))))).size, ownsRow_kp (MK.out w2).row (show Kp No (mk w2) (mk w2) from by (repeat' (first | exact Kp.refl _ _ | (refine Kp.trans_no ?_ (MK.out _).kp) | (refine Kp.trans_no ?_ (Kp.alloc _)) | (refine Kp.trans_no ?_ Kp.drew) | (refine Kp.trans_no ?_ k2)))) (fun _ _ z => z)⟩ ⟨_, (show Kp No w (World.drew (World.alloc w (.map #[] 0))) from (by (repeat' (first | exact Kp.refl _ _ | (refine Kp.trans_no ?_ (MK.out _).kp) | (refine Kp.trans_no ?_ (Kp.alloc _)) | (refine Kp.trans_no ?_ Kp.drew) | (refine Kp.trans_no ?_ k2))))).size, ownsRow_kp row2 (show Kp No w2 (mk w2) from by (repeat' (first | exact Kp.refl _ _ | (refine Kp.trans_no ?_ (MK.out _).kp) | (refine Kp.trans_no ?_ (Kp.alloc _)) | (refine Kp.trans_no ?_ Kp.drew) | (refine Kp.trans_no ?_ k2)))) (fun _ _ z => z)⟩ (by have h : (World.alloc w (.map #[] 0)).heap[World.heap w |>.size]? = some (.map #[] 0) := heap_alloc_new _ _; rw [← (show Kp No (World.alloc w (.map #[] 0)) (mk w2) from by (repeat' (first | exact Kp.refl _ _ | (refine Kp.trans_no ?_ (MK.out _).kp) | (refine Kp.trans_no ?_ (Kp.alloc _)) | (refine Kp.trans_no ?_ Kp.drew) | (refine Kp.trans_no ?_ k2)))).block _ (heap_lt h) (fun z => z)] at h; exact h) ((Nat.le_refl _)) (by (repeat' (first | exact Kp.refl _ _ | (refine Kp.trans_no ?_ (MK.out _).kp) | (refine Kp.trans_no ?_ (Kp.alloc _)) | (refine Kp.trans_no ?_ Kp.drew) | (refine Kp.trans_no ?_ k2))))⟩
  case rest =>
  obtain ⟨Q, hs, j0⟩ := hcut
  subst hs
  have J0 : Hid (NqR w p M.n M.lev (QL.bq Q) l l.length (.int .i64 0) wc) := Lib.hid ⟨0, Q, by omega, rfl, rfl, by simpa using j0⟩
  have hni : (M.n : Int) ≤ 256 := by omega
  clear j0 VARS LEV MK mk1 hmm
  generalize (QL.bq Q) = bq at *
  generalize M.n = n at *
  generalize M.lev = lev at *
  go_wp2_with fail
  go_loopg [19] l.length (fun gk s x => NqR w p n lev bq l gk s x)
  case atStart => exact J0.out
  case round =>
    clear J0
    obtain ⟨i, Q, hi, rfl, hbq, j⟩ := hrel
    subst hbq
    by_cases hlt : i < l.length
    · obtain ⟨g1, o1, c1, hv1, _, hcell⟩ := (HD.out wr j.kp).cellAt (by omega)
      have hv2 : ao = some ⟨g1, o1, none⟩ := by injection hv1
      subst hv2
      have hc := hcell i (natV (l.getD i 0)) (by simp [hlt])
      unfold natV at hc
      have hmem : l.getD i 0 ∈ l := by rw [List.getD_eq_getElem?_getD, List.getElem?_eq_getElem hlt]; exact List.getElem_mem hlt
      have hvn := HV.out _ hmem
      have hvl := LVN.out _ hvn
      have et : l.take (i + 1) = l.take i ++ [l.getD i 0] := by rw [List.take_succ_eq_append_getElem hlt]; simp [hlt]
      have hi' := row_full j.inr
      have hlti : (i : Int) < l.length := by omega
      have HI := Lib.hid hi
      have hgl := (j.inr.lt Q.gi rfl).2
      have JP := Lib.hid (j.put (v := l.getD i 0))
      rw [← et] at JP
      clear hcell hv1 hi et hmem
      generalize l.getD i 0 = v at *
      have ho : (v : Int) < n := by omega
      -- the cells
      have q1 : wr.cell? ⟨Q.bq, 1, none⟩ = some (.slice (some ⟨Q.gi, 0, none⟩) n n) := by rw [cell_of_row _ _ _ _ _ _ j.str]; rfl
      have q2 : wr.cell? ⟨Q.bq, 2, none⟩ = some (.slice (some ⟨Q.gl, 0, none⟩) n n) := by rw [cell_of_row _ _ _ _ _ _ j.str]; rfl
      have q3 : wr.cell? ⟨Q.bq, 3, none⟩ = some (.int .i64 Q.last) := by rw [cell_of_row _ _ _ _ _ _ j.str]; rfl
      have z3 : wr.frozen? ⟨Q.bq, 3, none⟩ = false := by simp [World.frozen?, j.str]
      have zi : wr.frozen? ⟨Q.gi, v, none⟩ = false := by simp [World.frozen?, hi']
      have ci : wr.cell? ⟨Q.gi, v, none⟩ = some (.bool (decide (v ∈ l.take i))) := by rw [cell_of_row _ _ _ _ _ _ hi']; simp [InRow, hvn]
      have cl : wr.cell? ⟨Q.gl, v, none⟩ = some (.int .i64 (lev v : Int)) := by rw [cell_of_row _ _ _ _ _ _ j.lvr]; simp [natV, hvn]
      have lq := heap_lt j.str
      have ll := heap_lt j.lvr
      have n1 : ¬ Q.gi = Q.bq := fun e => by have := j.str; rw [← e, hi'] at this; simp at this
      have n2 : ¬ Q.gl = Q.bq := fun e => by have := j.str; rw [← e, j.lvr] at this; simp at this
      have n3 : ¬ Q.gl = Q.gi := fun e => by have := hi'; rw [← e, j.lvr] at this; simp at this
      have n1' : ¬ Q.bq = Q.gi := fun e => n1 e.symm
      have hlvi : (lev v : Int) < 256 := by omega
      generalize decide (v ∈ l.take i) = bu at *
      clear hi' j hvn hvl
      by_cases hm : (lev v : Int) ≤ Q.last
      · rw [if_pos hm] at JP
        have JN : Hid (∀ d, NqR w p n lev Q.bq l (l.length - (i + 1)) (.int .i64 ((i + 1 : Nat) : Int)) (((wr.setCell ⟨Q.gi, v, none⟩ (.bool true)).setCell ⟨Q.bq, 3, none⟩ (.int .i64 Q.last)).drewN d)) := Lib.hid (fun d => ⟨i + 1, _, by have := HI.out; omega, rfl, rfl, JP.out.no (Kp.drewN d)⟩)
        clear JP
        generalize (lev v : Int) = lv at *
        go_upto_region 6 with fail
        go_region
        go_wp2_with fail
        go_roundg (l.length - (i + 1))
        case measure => have := HI.out; omega
        case rel => exact JN.out 1
      · rw [if_neg hm] at JP
        have hm' : Q.last < (lev v : Int) := by omega
        have JN : Hid (∀ d, NqR w p n lev Q.bq l (l.length - (i + 1)) (.int .i64 ((i + 1 : Nat) : Int)) (((wr.setCell ⟨Q.gi, v, none⟩ (.bool true)).setCell ⟨Q.bq, 3, none⟩ (.int .i64 (lev v : Int))).drewN d)) := Lib.hid (fun d => ⟨i + 1, { Q with last := (lev v : Int) }, by have := HI.out; omega, rfl, rfl, JP.out.no (Kp.drewN d)⟩)
        clear JP
        generalize (lev v : Int) = lv at *
        go_upto_region 6 with fail
        go_region
        go_wp2_with fail
        go_roundg (l.length - (i + 1))
        case measure => have := HI.out; omega
        case rel => exact JN.out 1
    · obtain rfl : i = l.length := by omega
      rw [List.take_length] at j
      have RET : Hid (NqPost w p n lev l (.returned (ptr Q.bq)) wr) := Lib.hid ⟨Q, rfl, j⟩
      have hge : ¬ (l.length : Int) < l.length := by omega
      clear hi j hlt
      go_wp2_with fail
      go_ret
      exact RET.out

/-- The state behind 'newQuantifier'. -/
theorem NqJ.sk {w x : World} {p : Nat} {M : Mgr} {L : Lay} {Q : QL} {l : List Nat} (R : Rep w p M L) (j : NqJ w p M.n M.lev Q l x) : Sk x p L Q.bs (Q.X p M.n l M.lev) (PMemo l Q.bs) x M L := by
  have hi := row_full j.inr
  have off : ∀ b, w.heap.size ≤ b → ¬ L.at p b := fun b hb h => by have := R.lt b h; omega
  have hgi := (j.inr.lt Q.gi rfl).1
  refine ⟨R.no j.kp, Kp.refl _ _, fun _ h => .inl h, ⟨fun _ => none, ⟨#[], 0, j.mp, [], by simp, fun k => rfl⟩, fun x r h => by cases h⟩, heap_lt j.mp, off _ j.ns, fun b o hb => ?_⟩
  rcases List.mem_cons.1 hb with e | hb
  · cases e
    exact ⟨j.str, off _ j.nq, fun e => by have := j.str; rw [e, j.mp] at this; simp at this⟩
  · rcases List.mem_cons.1 hb with e | hb
    · cases e
      exact ⟨hi, off _ hgi, fun e => by have := hi; rw [e, j.mp] at this; simp at this⟩
    · rcases List.mem_cons.1 hb with e | hb
      · cases e
        exact ⟨j.lvr, off _ j.nl, fun e => by have := j.lvr; rw [e, j.mp] at this; simp at this⟩
      · cases hb

end Go.Proofs.Ytngbodmooddjbaa
