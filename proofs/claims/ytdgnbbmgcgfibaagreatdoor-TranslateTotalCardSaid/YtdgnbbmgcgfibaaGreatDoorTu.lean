/-
 Walks: 'within' and 'Rule' of the package predicate.
-/
import Derived.Test.YtdgnbbmgcgfibaaGreatDoorTq
import Derived.RangeFuncNested
import Derived.RangeFuncBound
import Derived.RangeFuncCalls
import Derived.RangeFuncLeaves
import Derived.RangeFuncBox
import Derived.Shelf.Abstract
import Derived.Shelf.RegionOpen
import Derived.WalkKit
import Derived.OwnWalkIn
import Derived.TacticsInMore
import Derived.LoopNIn
import Derived.LoopIn
import Derived.Deep.RegionHeld3
namespace Go.Proofs.YtdgnbbmgcgfibaaGreatDoor
open Go.RowKit Go.Shelf

attribute [local go_sem] Oper.semAt_some

structure Tr where
 k : Int
 i : Nat
 o : Nat
 pr : Int
 ip : Int
 op : Int
 nm : ByteArray
 lo : Nat
 hi : Nat
def Tr.v (t : Tr) : Array Value := #[.int .i64 t.k, .int .u32 (t.i : Int), .int .u32 (t.o : Int), .int .i64 t.pr, .int .i64 t.ip, .int .i64 t.op, .string t.nm, .int .u32 (t.lo : Int), .int .u32 (t.hi : Int)]
def TrAt (w : World) (g o : Nat) (t : Tr) : Prop := w.cell? ⟨g, o, none⟩ = some (.int .i64 t.k) ∧ w.cell? ⟨g, o + 1, none⟩ = some (.int .u32 (t.i : Int)) ∧ w.cell? ⟨g, o + 2, none⟩ = some (.int .u32 (t.o : Int)) ∧ w.cell? ⟨g, o + 3, none⟩ = some (.int .i64 t.pr) ∧ w.cell? ⟨g, o + 4, none⟩ = some (.int .i64 t.ip) ∧ w.cell? ⟨g, o + 5, none⟩ = some (.int .i64 t.op) ∧ w.cell? ⟨g, o + 6, none⟩ = some (.string t.nm) ∧ w.cell? ⟨g, o + 7, none⟩ = some (.int .u32 (t.lo : Int)) ∧ w.cell? ⟨g, o + 8, none⟩ = some (.int .u32 (t.hi : Int))
structure Tr.ok (t : Tr) : Prop where
 r : trR t.k t.pr t.ip t.op t.lo t.hi
 i : t.i < 4294967296
 o : t.o < 4294967296
 lo : t.lo < 4294967296
 hi : t.hi < 4294967296
def Tr.ent (ac : ByteArray → List Ru) (t : Tr) : Ent := if t.k = 1 then .stat t.i t.o else if t.k = 2 then .pool t.nm.toList.isEmpty (ac t.nm) t.lo t.hi else .fwd t.i t.pr.toNat t.ip.toNat t.o t.op.toNat
theorem Tr.ent_ok {ac : ByteArray → List Ru} {t : Tr} (h : t.ok) (ha : (ac t.nm).length ≤ 4) : (t.ent ac).ok := by
 unfold Tr.ent
 rcases h.r with e | ⟨e, _⟩ | ⟨e, h1, h2, h3⟩
 ·rw [if_pos e]; exact ⟨h.i, h.o⟩
 ·rw [if_neg (by omega), if_pos e]; exact ⟨ha, h.lo, h.hi⟩
 ·rw [if_neg (by omega), if_neg (by omega)]; exact ⟨h.i, h.o, by omega, by omega, by omega⟩
def NatAt (w : World) (p : Nat) (L : Lay) (cs : Array Value) (ts : List Tr) : Prop := ∃ (ao : Option Addr) (cp : Nat), cs[6]? = some (.slice ao ts.length cp) ∧ ts.length ≤ cp ∧ cp ≤ 9223372036854775807 ∧ (ts.length = 0 ∨ ∃ g o, ao = some ⟨g, o, none⟩ ∧ g < w.heap.size ∧ ¬ L.at p g ∧ ∀ j t, ts[j]? = some t → TrAt w g (o + j * 9) t)
theorem row_ty {w : World} {base : Nat} {e t : TypeId} {size n l : Nat} {v : Value} {xs : List Value} {c : Array Value} {fr : Nat × Nat} (h : w.ownsRow base e size v n xs) (hl : w.heap[l]? = some (.cells c t fr)) (hne : e ≠ t) : v.ownBlock ≠ some l := fun hv => by
 rcases h.2 with ⟨hv0, h0⟩ | ⟨g, cap, cur, hv0, hg1, hg2, hg3, _, hg5, hg6⟩
 ·rw [hv0] at hv; cases hv
 ·rw [hv0] at hv
  cases hv
  rw [hl] at hg2
  cases hg2
  exact hne rfl
theorem Rep.notTr {w : World} {p l : Nat} {M : Mgr} {L : Lay} {c : Array Value} {fr : Nat × Nat} (R : Rep w p M L) (hl : w.heap[l]? = some (.cells c 66 fr)) : ¬ L.at p l := fun h => by
 obtain ⟨F, raw, _⟩ := R.raw
 rcases h with rfl | rfl | rfl | h | h | h | h | h
 ·have := raw.mgr
  rw [hl] at this
  injection this with this
  injection this with _ this
  exact absurd this (by decide)
 ·obtain ⟨es, clock, hb, _⟩ := raw.uniq
  rw [hl] at hb
  cases hb
 ·obtain ⟨es, clock, hb, _⟩ := raw.memo
  rw [hl] at hb
  cases hb
 ·exact row_ty raw.order hl (by decide) h
 ·exact row_ty raw.level hl (by decide) h
 ·exact row_ty raw.nodes hl (by decide) h
 ·exact row_ty raw.shown hl (by decide) h
 ·exact row_ty raw.free hl (by decide) h

structure DK (W0 W : World) (p : Nat) (L1 : Lay) (hs nb fb Bs b : Nat) (r : Int) (tv : Array Value) (cs : Array Value) (y : World) (Ly : Lay) : Prop where
 q : y.heap[hs + 1]? = some (.cells cs 41 (0, 0))
 m : y.heap[hs]? = some (.cells #[ptr p] 52 (0, 0))
 t : y.heap[nb]? = some (.cells tv 66 (0, 0))
 f : y.heap[fb]? = some (.cells #[.int .i64 r] 54 (0, 0))
 s : y.heap[Bs]? = W.heap[Bs]?
 u : y.heap[b]? = W.heap[b]?
 fr : Fresh (L1.at p) (Ly.at p) W0
 sz : W.heap.size ≤ y.heap.size
 kr : KeepsRec W y
structure DC (W0 W : World) (p : Nat) (L1 : Lay) (hs fb Bs b : Nat) : Prop where
 z : W0.heap.size ≤ W.heap.size
 s : Bs < W.heap.size
 u : b < W.heap.size
 l : ∀ L' : Lay, Fresh (L1.at p) (L'.at p) W0 → ¬ L'.at p hs ∧ ¬ L'.at p fb ∧ ¬ L'.at p Bs ∧ ¬ L'.at p b ∧ ¬ L'.at p (hs + 1)
section
variable {W0 W y y' : World} {p hs nb fb Bs b : Nat} {L1 Ly L' : Lay} {r : Int} {tv cs : Array Value}
theorem DK.no (h : DK W0 W p L1 hs nb fb Bs b r tv cs y Ly) (C : DC W0 W p L1 hs fb Bs b) (k : Kp No y y') : DK W0 W p L1 hs nb fb Bs b r tv cs y' Ly where
 q := (k.block _ (heap_lt h.q) (fun h => h)).trans h.q
 m := (k.block _ (heap_lt h.m) (fun h => h)).trans h.m
 t := (k.block _ (heap_lt h.t) (fun h => h)).trans h.t
 f := (k.block _ (heap_lt h.f) (fun h => h)).trans h.f
 s := (k.block _ (Nat.lt_of_lt_of_le C.s h.sz) (fun h => h)).trans h.s
 u := (k.block _ (Nat.lt_of_lt_of_le C.u h.sz) (fun h => h)).trans h.u
 fr := h.fr
 sz := Nat.le_trans h.sz k.size
 kr := h.kr.trans (.no k)
theorem DK.step {M : Mgr} (h : DK W0 W p L1 hs nb fb Bs b r tv cs y Ly) (C : DC W0 W p L1 hs fb Bs b) (R : Rep y p M Ly) (k : Kp (Ly.at p) y y') (f : Fresh (Ly.at p) (L'.at p) y) (kr : KeepsRec y y') : DK W0 W p L1 hs nb fb Bs b r tv cs y' L' :=
 have n := C.l Ly h.fr
 {q := (k.block _ (heap_lt h.q) n.2.2.2.2).trans h.q
  m := (k.block _ (heap_lt h.m) n.1).trans h.m
  t := (k.block _ (heap_lt h.t) (R.notTr h.t)).trans h.t
  f := (k.block _ (heap_lt h.f) n.2.1).trans h.f
  s := (k.block _ (Nat.lt_of_lt_of_le C.s h.sz) n.2.2.1).trans h.s
  u := (k.block _ (Nat.lt_of_lt_of_le C.u h.sz) n.2.2.2.1).trans h.u
  fr := h.fr.then f (Nat.le_trans C.z h.sz)
  sz := Nat.le_trans h.sz k.size
  kr := h.kr.trans kr }
def DS (p hs nb : Nat) (t : Tr) (y : World) : Prop := y.cell? ⟨hs, 0, none⟩ = some (ptr p) ∧ y.cell? ⟨nb, 0, none⟩ = some (.int .i64 t.k) ∧ y.cell? ⟨nb, 1, none⟩ = some (.int .u32 (t.i : Int)) ∧ y.cell? ⟨nb, 2, none⟩ = some (.int .u32 (t.o : Int)) ∧ y.cell? ⟨nb, 3, none⟩ = some (.int .i64 t.pr) ∧ y.cell? ⟨nb, 4, none⟩ = some (.int .i64 t.ip) ∧ y.cell? ⟨nb, 5, none⟩ = some (.int .i64 t.op)
theorem DK.S {t : Tr} (h : DK W0 W p L1 hs nb fb Bs b r t.v cs y Ly) : DS p hs nb t y := by
 refine ⟨?_, ?_, ?_, ?_, ?_, ?_, ?_⟩
 ·rw [cell_of_row _ _ _ _ _ _ h.m]; rfl
 ·rw [cell_of_row _ _ _ _ _ _ h.t]; rfl
 ·rw [cell_of_row _ _ _ _ _ _ h.t]; rfl
 ·rw [cell_of_row _ _ _ _ _ _ h.t]; rfl
 ·rw [cell_of_row _ _ _ _ _ _ h.t]; rfl
 ·rw [cell_of_row _ _ _ _ _ _ h.t]; rfl
 ·rw [cell_of_row _ _ _ _ _ _ h.t]; rfl
theorem DK.S2 {t : Tr} (h : DK W0 W p L1 hs nb fb Bs b r t.v cs y Ly) {v : Value} : DS p hs nb t (y.setCell ⟨fb, 0, none⟩ v) := by
 have n1 : hs ≠ fb := fun e => by have := h.m; rw [e, h.f] at this; injection this with this; injection this with _ this; exact absurd this (by decide)
 have n2 : nb ≠ fb := fun e => by have := h.t; rw [e, h.f] at this; injection this with this; injection this with _ this; exact absurd this (by decide)
 have k1 : ∀ z, (y.setCell ⟨fb, 0, none⟩ v).cell? ⟨hs, z, none⟩ = y.cell? ⟨hs, z, none⟩ := fun z => World.cell?_of_block (Below.heap_setCell _ _ _ _ n1)
 have k2 : ∀ z, (y.setCell ⟨fb, 0, none⟩ v).cell? ⟨nb, z, none⟩ = y.cell? ⟨nb, z, none⟩ := fun z => World.cell?_of_block (Below.heap_setCell _ _ _ _ n2)
 have := h.S
 unfold DS at this ⊢
 simp only [k1, k2]
 exact this
theorem DK.fin {w : World} {c : Nat} {M : Mgr} {L : Lay} {B : List (Int × Bfn)} (h : DK W0 W p L1 hs nb fb Bs b r tv cs y Ly) (C : DC W0 W p L1 hs fb Bs b) (G : Hf w p L 220 c y M Ly B) (hw : w.heap.size ≤ fb) (hg : 0 < w.heap.size) (n1 : Bs ≠ fb) (n2 : b ≠ fb) (v : Int) :
  KeepsRec W (y.setCell ⟨fb, 0, none⟩ (.int .i64 v)) ∧ BkR Bs b W (y.setCell ⟨fb, 0, none⟩ (.int .i64 v)) ∧ Hf w p L 220 c (y.setCell ⟨fb, 0, none⟩ (.int .i64 v)) M Ly B ∧ (Fresh (L1.at p) (Ly.at p) W0 ∧ W0.heap.size ≤ (y.setCell ⟨fb, 0, none⟩ (.int .i64 v)).heap.size) ∧
  (y.setCell ⟨fb, 0, none⟩ (.int .i64 v)).heap[hs]? = some (.cells #[ptr p] 52 (0, 0)) ∧ (y.setCell ⟨fb, 0, none⟩ (.int .i64 v)).heap[hs + 1]? = some (.cells cs 41 (0, 0)) ∧ (y.setCell ⟨fb, 0, none⟩ (.int .i64 v)).heap[fb]? = some (.cells #[.int .i64 v] 54 (0, 0)) := by
 have n3 : hs ≠ fb := fun e => by have := h.m; rw [e, h.f] at this; injection this with this; injection this with _ this; exact absurd this (by decide)
 have n4 : hs + 1 ≠ fb := fun e => by have := h.q; rw [e, h.f] at this; injection this with this; injection this with _ this; exact absurd this (by decide)
 refine ⟨h.kr.trans (.of_kp (Kp.setCell (w := y) ⟨fb, 0, none⟩ (.int .i64 v)) (fun k o hk ho e => ?_)), ⟨?_, ?_⟩, ?_, ⟨h.fr, by simp; exact Nat.le_trans C.z h.sz⟩, ?_, ?_, heap_setCell_same y _ 0 _ _ _ h.f⟩
 ·rw [show k = fb from e, h.f] at hk
  cases hk
  cases ho
 ·rw [Below.heap_setCell _ _ _ _ n1]; exact h.s
 ·rw [Below.heap_setCell _ _ _ _ n2]; exact h.u
 ·exact G.kp (Kp.setCell (w := y) ⟨fb, 0, none⟩ (.int .i64 v)) (fun x e => by rw [show x = fb from e]; exact (C.l Ly h.fr).2.1) (fun x e => by rw [show x = fb from e]; exact hw) (fun e => by
   rw [show 0 = fb from e] at hg
   omega)
 ·rw [Below.heap_setCell _ _ _ _ n3]; exact h.m
 ·rw [Below.heap_setCell _ _ _ _ n4]; exact h.q
theorem DK.c (h : DK W0 W p L1 hs nb fb Bs b r tv cs y Ly) : y.cell? ⟨fb, 0, none⟩ = some (.int .i64 r) := by rw [cell_of_row _ _ _ _ _ _ h.f]; rfl
theorem DK.z (h : DK W0 W p L1 hs nb fb Bs b r tv cs y Ly) : y.frozen? ⟨fb, 0, none⟩ = false := by simp [World.frozen?, h.f]
end
theorem src_lit (w : World) (l : List Value) (t : TypeId) : SrcAt (w.alloc (.cells l.toArray t)) (.slice (some ⟨w.heap.size, 0, none⟩) l.length l.length) 1 l.length l :=
 ⟨_, _, rfl, by simp, .inr ⟨w.heap.size, 0, rfl, by simp, fun j u hu => by
  have h0 := heap_alloc_new w (.cells l.toArray t)
  rw [cell_of_row _ _ _ _ _ _ h0]
  simpa using hu⟩⟩
theorem samF_st (W : Nat → Bool) : PSt 220 (samF W) 4 := PSt.of_JA ((samF_rd W).mono (Nat.zero_le _) (Nat.le_refl _)) (fun d _ => (JA.sames d [W]).mono (by simp))
theorem allF_st : ∀ l : List Bfn, (∀ F, F ∈ l → PSt 220 F 9) → PSt 220 (allF l) (9 ^ l.length)
 | [], _ => PSt.const _ _
 | F :: l, h => by
  have := PSt.op (fun x y => x && y) (h F (List.mem_cons_self ..)) (allF_st l (fun G hG => h G (List.mem_cons_of_mem _ hG)))
  refine PSt.mono this ?_
  rw [List.length_cons, Nat.pow_succ, Nat.mul_comm]
  exact Nat.le_refl _
theorem allF_drop {l : List Bfn} (hl : l.length ≤ 3) (h : ∀ F, F ∈ l → PSt 220 F 9) (j : Nat) : PSt 220 (allF (l.drop j)) 729 :=
 (allF_st (l.drop j) (fun F hF => h F (List.mem_of_mem_drop hF))).mono (Nat.le_trans (Nat.pow_le_pow_right (by omega) (show (l.drop j).length ≤ 3 by rw [List.length_drop]; omega)) (by decide))

theorem DB_le {j : Nat} (h : j ≤ 4) : DB j ≤ 4096 := by
 rcases (show j = 0 ∨ j = 1 ∨ j = 2 ∨ j = 3 ∨ j = 4 by omega) with rfl | rfl | rfl | rfl | rfl <;> decide
theorem dstF_pool (any : Bool) (rs : List Ru) (lo hi : Nat) (l : List Ent) : dstF (.pool any rs lo hi :: l) = dstF l := funext fun a => by
 show (if (false : Bool) = true then (Ent.dchg (.pool any rs lo hi)) a else dstF l a) = dstF l a
 simp
def Tr.z : Tr := ⟨0, 0, 0, 0, 0, 0, ⟨#[]⟩, 0, 0⟩
def DstI (w W0 : World) (p c hs fb : Nat) (cs : Array Value) (L L1 : Lay) (B : List (Int × Bfn)) (es : List Ent) (pre : List Nat) (W : World) : Prop :=
 ∃ r M' L', Hf w p L 220 (c + 20000000 + pre.length * 100000000) W M' L' ((r, dstF (es.drop (es.length - pre.length))) :: B) ∧ (Fresh (L1.at p) (L'.at p) W0 ∧ W0.heap.size ≤ W.heap.size) ∧ W.heap[hs]? = some (.cells #[ptr p] 52 (0, 0)) ∧ W.heap[hs + 1]? = some (.cells cs 41 (0, 0)) ∧ W.heap[fb]? = some (.cells #[.int .i64 r] 54 (0, 0))
set_option maxRecDepth 1000000 in
set_option maxHeartbeats 16000000 in
theorem Dest_ok {p c : Nat} {M : Mgr} {L : Lay} {B : List (Int × Bfn)} (cs : Array Value) (_hcs : cs.size = 25) (ts : List Tr) (ac : ByteArray → List Ru) (hts : ts.length ≤ 4) (hok : ∀ t, t ∈ ts → t.ok) (hac : ∀ t, t ∈ ts → (ac t.nm).length ≤ 4) {w : World} (R : Rep w p M L) (q : Qk 220 c M B) (g : Gl w) (ho : ¬ L.at p 0) (hn : NatAt w p L cs ts) (hc : c ≤ 400000000000) :
  Calls Tryz.prog 9 #[ptr p, .agg cs] w (OpQ p 220 (c + 1000000000) L w (dstF (ts.map (Tr.ent ac))) B) := by
 have H := Lib.hid (Hf.start R q g ho)
 have RLT := Lib.hid R.lt
 have GLT := Lib.hid g.lt
 have HC := Lib.hid hc
 obtain ⟨ao, cp, hcs6, hcp1, hcp2, hcell⟩ := hn
 have HC6 := Lib.hid hcs6
 have HCL := Lib.hid hcell
 have hll : (ts.length : Int) ≤ 9223372036854775807 := by omega
 have BK := Lib.hid (fun (z : World) => BackT_ok ao ts.length cp z)
 clear R q g hcs6 hcell
 refine callsIn_wide.1 (callsIn_of_wp_marks Tryz.func9 rfl trivial ?_ rfl (n := 3))
 refine wpIn_wide.2 ?_
 simp only [Tryz.ntmps9, List.size_toArray, List.length_cons, List.length_nil, Nat.reduceAdd, Nat.reduceSub, Array.replicate_succ, Array.replicate_zero, List.push_toArray, List.append_toArray, List.nil_append, List.cons_append]
 go_upto_region 1 with fail
 have kX : Kp No w ((w.alloc (.cells #[ptr p] 52)).alloc (.cells cs 41)) := (Kp.alloc _).trans_no (Kp.alloc _)
 have x2 : ((w.alloc (.cells #[ptr p] 52)).alloc (.cells cs 41)).heap[w.heap.size]? = some (.cells #[ptr p] 52 (0, 0)) := by
  rw [Below.heap_alloc _ _ _ (by simp)]; exact heap_alloc_new _ _
 have x3 : ((w.alloc (.cells #[ptr p] 52)).alloc (.cells cs 41)).heap[w.heap.size + 1]? = some (.cells cs 41 (0, 0)) := by
  have := heap_alloc_new (w.alloc (.cells #[ptr p] 52)) (.cells cs 41)
  simpa using this
 have xz : ((w.alloc (.cells #[ptr p] 52)).alloc (.cells cs 41)).heap.size = w.heap.size + 2 := by simp
 generalize ((w.alloc (.cells #[ptr p] 52)).alloc (.cells cs 41)) = X at *
 have H1 := Lib.hid (H.out.no kX)
 have KX := Lib.hid kX
 have XZ := Lib.hid xz
 have ID := Lib.hid (TId_ok H1.out.rep H1.out.qk H1.out.gl H1.out.off (by have := HC.out; omega))
 have X2 := Lib.hid x2
 have X3 := Lib.hid x3
 have c2 : X.cell? ⟨w.heap.size, 0, none⟩ = some (ptr p) := by rw [cell_of_row _ _ _ _ _ _ x2]; rfl
 clear x2 x3 kX xz
 go_wp2_with fail
 refine ID.out.mono ?_
 intro e w1 o
 obtain ⟨r0, M1, L1, rfl, _, h1, k1, f1, _⟩ := H1.out.stepK o
 have l2 : ¬ L.at p w.heap.size := fun h => by have := RLT.out _ h; omega
 have l3 : ¬ L.at p (w.heap.size + 1) := fun h => by have := RLT.out _ h; omega
 have y2 : w1.heap[w.heap.size]? = some (.cells #[ptr p] 52 (0, 0)) := (k1.block _ (heap_lt X2.out) l2).trans X2.out
 have y3 : w1.heap[w.heap.size + 1]? = some (.cells cs 41 (0, 0)) := (k1.block _ (heap_lt X3.out) l3).trans X3.out
 have s1 := k1.size
 have HF1 := Lib.hid h1
 have F1 := Lib.hid f1
 have K1 := Lib.hid k1
 have Y2 := Lib.hid y2
 have Y3 := Lib.hid y3
 clear o h1 k1 f1 c2 ID l2 l3 y2
 have z3 : (w1.alloc (.cells #[.int .i64 r0] 54)).cell? ⟨w.heap.size + 1, 6, none⟩ = some (.slice ao ts.length cp) := by
  rw [World.cell?_alloc_lt _ _ _ (by have := heap_lt y3; exact this), cell_of_row _ _ _ _ _ _ y3]
  exact HC6.out
 clear y3
 go_wp2_with fail
 refine (BK.out _).mono ?_
 rintro e w2 ⟨rfl, rfl⟩
 clear z3
 go_wp2_with fail
 obtain ⟨es, hes⟩ : ∃ es, es = ts.map (Tr.ent ac) := ⟨_, rfl⟩
 have ESL : Hid (es.length = ts.length) := Lib.hid (by rw [hes, List.length_map])
 have ES := Lib.hid hes
 have W0E : Hid (∃ W0, W0 = (w1.alloc (.cells #[.int .i64 r0] 54)).alloc (.cells #[.slice ao ts.length cp] 26)) := Lib.hid ⟨_, rfl⟩
 have kW : Kp No w1 ((w1.alloc (.cells #[.int .i64 r0] 54)).alloc (.cells #[.slice ao ts.length cp] 26)) := (Kp.alloc _).trans_no (Kp.alloc _)
 have v2 : ((w1.alloc (.cells #[.int .i64 r0] 54)).alloc (.cells #[.slice ao ts.length cp] 26)).heap[w1.heap.size]? = some (.cells #[.int .i64 r0] 54 (0, 0)) := by
  rw [Below.heap_alloc _ _ _ (by simp)]; exact heap_alloc_new _ _
 have v3 : ((w1.alloc (.cells #[.int .i64 r0] 54)).alloc (.cells #[.slice ao ts.length cp] 26)).heap[w1.heap.size + 1]? = some (.cells #[.slice ao ts.length cp] 26 (0, 0)) := by
  have := heap_alloc_new (w1.alloc (.cells #[.int .i64 r0] 54)) (.cells #[.slice ao ts.length cp] 26)
  simpa using this
 have vz : ((w1.alloc (.cells #[.int .i64 r0] 54)).alloc (.cells #[.slice ao ts.length cp] 26)).heap.size = w1.heap.size + 2 := by simp
 generalize ((w1.alloc (.cells #[.int .i64 r0] 54)).alloc (.cells #[.slice ao ts.length cp] 26)) = W0 at *
 have KW := Lib.hid kW
 have kw0 : w.heap.size + 2 ≤ w1.heap.size := by have := XZ.out; omega
 obtain ⟨b, ob, hao, ⟨hbf, hbw⟩, hbL, hcells⟩ : ∃ b ob, (ao = some ⟨b, ob, none⟩ ∨ ts.length = 0) ∧ (b < w1.heap.size ∧ b < W0.heap.size) ∧ (∀ L' : Lay, Fresh (L1.at p) (L'.at p) W0 → ¬ L'.at p b) ∧ ∀ j t, ts[j]? = some t → TrAt W0 b (ob + j * 9) t := by
  rcases HCL.out with h0 | ⟨gn, og, e, hg, hnl, hc'⟩
  ·refine ⟨w.heap.size, 0, .inr h0, ⟨by omega, by omega⟩, fun L' f h => ?_, fun j t hj => ?_⟩
   ·rcases f _ h with h | h
    ·rcases F1.out _ h with h | h
     ·have := RLT.out _ h; omega
     ·have := XZ.out; omega
    ·omega
   ·have := (List.getElem?_eq_some_iff.1 hj).1
    omega
  ·refine ⟨gn, og, .inl e, ⟨by omega, by omega⟩, fun L' f h => ?_, fun j t hj => ?_⟩
   ·rcases f _ h with h | h
    ·rcases F1.out _ h with h | h
     ·exact hnl h
     ·have := XZ.out; omega
    ·omega
   ·have kk : ∀ z, W0.cell? ⟨gn, z, none⟩ = w.cell? ⟨gn, z, none⟩ := fun z => by
     rw [KW.out.cell (a := ⟨gn, z, none⟩) (by show gn < w1.heap.size; omega) (fun h => h), K1.out.cell (a := ⟨gn, z, none⟩) (by show gn < X.heap.size; have := XZ.out; omega) hnl, KX.out.cell (a := ⟨gn, z, none⟩) hg (fun h => h)]
    have := hc' j t hj
    unfold TrAt at this ⊢
    simp only [kk]
    exact this
 have CT0 : Hid (∀ L' : Lay, Fresh (L1.at p) (L'.at p) W0 → ¬ L'.at p w.heap.size ∧ ¬ L'.at p w1.heap.size ∧ ¬ L'.at p (w1.heap.size + 1) ∧ ¬ L'.at p b ∧ ¬ L'.at p (w.heap.size + 1)) := Lib.hid (fun L' f => by
  refine ⟨fun h => ?_, fun h => ?_, fun h => ?_, hbL L' f, fun h => ?_⟩
  ·rcases f _ h with h | h
   ·rcases F1.out _ h with h | h
    ·have := RLT.out _ h; omega
    ·have := XZ.out; omega
   ·omega
  ·rcases f _ h with h | h
   ·have := HF1.out.rep.lt _ h; omega
   ·omega
  ·rcases f _ h with h | h
   ·have := HF1.out.rep.lt _ h; omega
   ·omega
  ·rcases f _ h with h | h
   ·rcases F1.out _ h with h | h
    ·have := RLT.out _ h; omega
    ·have := XZ.out; omega
   ·omega)
 have HST := backT_hands 2 (by omega) (w1.heap.size + 1) b ob cp ts.length ao hao (by omega) (fun j => (ts.getD j Tr.z).k) (fun j => (ts.getD j Tr.z).i) (fun j => (ts.getD j Tr.z).o) (fun j => (ts.getD j Tr.z).pr) (fun j => (ts.getD j Tr.z).ip) (fun j => (ts.getD j Tr.z).op) (fun j => (ts.getD j Tr.z).nm) (fun j => (ts.getD j Tr.z).lo) (fun j => (ts.getD j Tr.z).hi) W0 (by omega) hbw (by rw [cell_of_row _ _ _ _ _ _ v3]; rfl) (fun j hj => by
  have := hcells j ts[j] (List.getElem?_eq_getElem hj)
  unfold TrAt at this
  simp only [List.getD_eq_getElem?_getD, List.getElem?_eq_getElem hj, Option.getD_some]
  exact this)
 have w02 : W0.heap[w.heap.size]? = some (.cells #[ptr p] 52 (0, 0)) := (KW.out.block _ (by omega) (fun h => h)).trans Y2.out
 have w03 : W0.heap[w.heap.size + 1]? = some (.cells cs 41 (0, 0)) := (KW.out.block _ (by omega) (fun h => h)).trans Y3.out
 refine (wpIn_wide (n := 3)).1 (range_calls rfl (by omega) (gf := 58) (lb := #[.pointer (some ⟨w1.heap.size + 1, 0, none⟩)]) rfl trivial (enters_of Tryz.func58 (by kernel_rfl) rfl)
  HST (fun _ => rfl) BkR.trans (BkR.put (by omega) hbw)
  (DstI w W0 p c w.heap.size w1.heap.size cs L L1 B es)
  (fun pre W o ⟨r, M', L', h, fr, b1, b2, b3⟩ => ⟨r, M', L', h.no (Kp.alloc o), ⟨fr.1, by simp; omega⟩, by rw [Below.heap_alloc _ _ _ (heap_lt b1)]; exact b1, by rw [Below.heap_alloc _ _ _ (heap_lt b2)]; exact b2, by rw [Below.heap_alloc _ _ _ (heap_lt b3)]; exact b3⟩)
  (fun pre W k o o' ⟨r, M', L', h, fr, b1, b2, b3⟩ hk hl2 hr => ⟨r, M', L', h.put (by omega) hl2 hr o', ⟨fr.1, by simp; omega⟩, by rw [World.putObj_heap_other (by omega)]; exact b1, by rw [World.putObj_heap_other (by omega)]; exact b2, by rw [World.putObj_heap_other (by omega)]; exact b3⟩)
  ⟨r0, M1, L1, by
   have e : es.drop (es.length - ([] : List Nat).length) = [] := by simp
   rw [e]
   exact (HF1.out.no KW.out).mono (by simp), ⟨fun x hx => .inl hx, Nat.le_refl _⟩, w02, w03, v2⟩
  (fun x a' W => ∃ nb, a' = { tmps := #[ptr p, .agg cs, .pointer (some ⟨w.heap.size, 0, none⟩), .pointer (some ⟨w.heap.size + 1, 0, none⟩), .int .i64 0, .pointer (some ⟨w1.heap.size, 0, none⟩), undef, .pointer (some ⟨nb, 0, none⟩), undef, undef, undef, ptr p, .int .i64 r0, .pointer (some ⟨w.heap.size + 1, 6, none⟩), .slice ao ts.length cp, .func (.func 58) #[] #[.pointer (some ⟨w1.heap.size + 1, 0, none⟩)], .int .i64 (x : Int), .agg ((ts.getD x Tr.z).v), undef, undef, undef, undef, undef, undef, undef, undef, undef, undef, undef, undef, undef, undef, undef, undef, undef, undef, undef, undef, undef, undef, undef, undef, undef, undef, undef, undef, undef, undef, undef, undef, undef, undef, undef, undef, undef, undef, undef, undef, undef, undef, undef, undef, undef, undef, undef, undef, undef, undef, undef, undef, undef, undef, undef, undef, undef, undef, undef, undef, undef, undef], defers := [] } ∧ W.heap[nb]? = some (.cells (ts.getD x Tr.z).v 66 (0, 0)))
  (fun x a' W k o o' ⟨nb, e, h⟩ hk hr => ⟨nb, e, by rw [World.putObj_heap_other (fun q => by rw [q, hk] at h; cases h; cases hr)]; exact h⟩)
  ?assign ?body ?done)
 case assign =>
  intro k pre x W K hI _ hK
  have HK := Lib.hid hK
  have HI := Lib.hid hI
  clear hK hI
  gi_wp2
  refine HK.out _ _ (.no (Kp.alloc _)) ⟨?_, ?_⟩ ?_ ⟨W.heap.size, rfl, heap_alloc_new _ _⟩
  ·obtain ⟨r, M', L', h, fr, b1, b2, b3⟩ := HI.out
   exact Below.heap_alloc _ _ _ (by omega)
  ·obtain ⟨r, M', L', h, fr, b1, b2, b3⟩ := HI.out
   exact Below.heap_alloc _ _ _ (by omega)
  ·obtain ⟨r, M', L', h, fr, b1, b2, b3⟩ := HI.out
   exact ⟨r, M', L', h.no (Kp.alloc _), ⟨fr.1, by simp; omega⟩, by rw [Below.heap_alloc _ _ _ (heap_lt b1)]; exact b1, by rw [Below.heap_alloc _ _ _ (heap_lt b2)]; exact b2, by rw [Below.heap_alloc _ _ _ (heap_lt b3)]; exact b3⟩
 case body =>
  rintro kl pre x a' y0 ⟨r, M', L', h, ⟨fr, hsW⟩, b1, b2, b3⟩ hp ⟨nb, rfl, hnb⟩
  obtain ⟨hpl, rfl⟩ := bkN_at hp
  obtain ⟨i, hi⟩ : ∃ i, i = ts.length - 1 - pre.length := ⟨_, rfl⟩
  have hil : i < ts.length := by omega
  have HPL : Hid (pre.length < 4) := Lib.hid (by omega)
  have hil2 : i < es.length := by have := ESL.out; omega
  have eE : es[i] = Tr.ent ac ts[i] := by simp [hes]
  have OKT := Lib.hid (hok ts[i] (List.getElem_mem hil))
  have OKE : Hid (∀ e, e ∈ es.drop i → e.ok) := Lib.hid (fun e he => by
   have := List.mem_of_mem_drop he
   rw [hes] at this
   obtain ⟨t, ht, rfl⟩ := List.mem_map.1 this
   exact Tr.ent_ok (hok t ht) (hac t ht))
  have DROP : Hid (es.drop i = es[i] :: es.drop (es.length - pre.length)) := Lib.hid (by
   rw [show es.length - pre.length = i + 1 by have := ESL.out; omega, List.drop_eq_getElem_cons hil2])
  have DR1 : Hid (es.length - (pre ++ [ts.length - 1 - pre.length]).length = i) := Lib.hid (by have := ESL.out; simp; omega)
  have GD : ts.getD (ts.length - 1 - pre.length) Tr.z = ts[i] := by rw [← hi, List.getD_eq_getElem?_getD, List.getElem?_eq_getElem hil]; rfl
  rw [GD] at hnb ⊢
  have DLEN : Hid ((es.drop i).length ≤ 4) := Lib.hid (by rw [List.length_drop]; have := ESL.out; omega)
  rw [eE] at DROP
  generalize ts[i] = t at *
  have CT : Hid (DC W0 y0 p L1 w.heap.size w1.heap.size (w1.heap.size + 1) b) := Lib.hid ⟨hsW, by omega, by omega, CT0.out⟩
  have D0 : Hid (DK W0 y0 p L1 w.heap.size nb w1.heap.size (w1.heap.size + 1) b r t.v cs y0 L') := Lib.hid ⟨b2, b1, hnb, b3, rfl, rfl, fr, Nat.le_refl _, KeepsRec.refl _⟩
  have G0 := Lib.hid h
  have BR3 := Lib.hid b2
  obtain ⟨u2, v0, v1, v2', v3', v4, v5⟩ := D0.out.S
  clear h fr b1 b2 b3 hnb GD eE hp
  have TE0 := OKT.out.r
  have HBF := Lib.hid hbf
  have HWF := Lib.hid kw0
  rcases TE0 with e1 | ⟨e1, _⟩ | ⟨e1, h1, h2, h3⟩
  ·as_aux_lemma =>
    have TE : Hid (t.ent ac = .stat t.i t.o) := Lib.hid (by unfold Tr.ent; rw [if_pos e1])
    have EQ : Hid (∀ a, (if (rgF 1 false t.o t.o) a = true then (allF [samF (exW [1]), rgF 1 true t.i t.i]) a else dstF (es.drop (es.length - pre.length)) a) = dstF (es.drop i) a) := Lib.hid (fun a => by rw [DROP.out, TE.out]; rfl)
    have PSI : Hid (PSt 220 (fun a => if (rgF 1 false t.o t.o) a = true then (allF [samF (exW [1]), rgF 1 true t.i t.i]) a else dstF (es.drop (es.length - pre.length)) a) 4096) := Lib.hid (((dst_st (es.drop i) OKE.out).mono (DB_le DLEN.out)).congr EQ.out)
    rw [e1] at v0
    gi_wp2
    clear u2 v0 v1 v2' v3' v4 v5
    have G1 := Lib.hid (G0.out.no (Kp.drew (w := y0)))
    have D1 := Lib.hid (D0.out.no CT.out (Kp.drew (w := y0)))
    refine region_round (S := DS p w.heap.size nb t) (by kernel_rfl) (by kernel_rfl) (fun ⟨_, _, h⟩ => h) D1.out.S (fun hS => ?_)
    generalize y0.drew = y1 at *
    refine tk 0 hS ?_
    refine tk 1 hS ?_
    refine tk 4 hS ?_
    refine tk 5 hS ?_
    refine tk 6 hS ?_
    refine op1 2 (fun K hK => ?_)
    go_simp
    have G2 := Lib.hid (G1.out.no (Kp.alloc (w := y1) (.cells #[.int .i64 1] 3)))
    have D2 := Lib.hid (D1.out.no CT.out (Kp.alloc (w := y1) (.cells #[.int .i64 1] 3)))
    have SRC2 := Lib.hid (src_lit y1 [.int .i64 1] 3)
    have NL2 : Hid (∀ g o m k, Value.slice (some ⟨y1.heap.size, 0, none⟩) 1 1 = .slice (some ⟨g, o, none⟩) m k → ¬ (L').at p g) := Lib.hid (fun g o m k e h => by cases e; have := G1.out.rep.lt _ h; omega)
    refine hK.out _ _ D2.out.S (fun hHeld => ?_)
    clear hK K hS
    have hS := hHeld
    clear hHeld
    try simp only [Act.put, List.setIfInBounds_toArray, List.set_cons_zero, List.set_cons_succ]
    generalize hz2 : y1.heap.size = z2 at *
    generalize y1.alloc (.cells #[.int .i64 1] 3) = y2 at *
    clear hz2
    have CC3 := Lib.hid (except_ok [1] (by simp) G2.out.rep G2.out.qk G2.out.gl G2.out.off (dv := .slice (some ⟨z2, 0, none⟩) 1 1) SRC2.out (by (try simp only [List.length_cons, List.length_nil, Nat.zero_add, Nat.reduceAdd, Nat.reduceMul]); have := HC.out; have := HPL.out; omega))
    refine op1 3 (fun K hK => ?_)
    go_simp
    go_at_call 28
    refine CC3.out.mono ?_
    intro e y3 o
    obtain ⟨r3, M3, L3, rfl, _, g, kk, ff, kr⟩ := G2.out.stepK o
    have D3 := Lib.hid (D2.out.step CT.out G2.out.rep kk ff kr)
    have G3 := Lib.hid g
    clear o g kk ff kr CC3
    go_wp2_with fail
    refine hK.out _ _ D3.out.S (fun hHeld => ?_)
    clear hK K hS
    have hS := hHeld
    clear hHeld
    try simp only [Act.put, List.setIfInBounds_toArray, List.set_cons_zero, List.set_cons_succ]
    have CC4 := Lib.hid (value_ok 1 (by omega) true t.i OKT.out.i G3.out.rep G3.out.qk G3.out.gl G3.out.off (by (try simp only [List.length_cons, List.length_nil, Nat.zero_add, Nat.reduceAdd, Nat.reduceMul]); have := HC.out; have := HPL.out; omega))
    refine op1 7 (fun K hK => ?_)
    go_simp
    go_at_call 29
    refine CC4.out.mono ?_
    intro e y4 o
    obtain ⟨r4, M4, L4, rfl, _, g, kk, ff, kr⟩ := G3.out.stepK o
    have D4 := Lib.hid (D3.out.step CT.out G3.out.rep kk ff kr)
    have G4 := Lib.hid g
    clear o g kk ff kr CC4
    go_wp2_with fail
    refine hK.out _ _ D4.out.S (fun hHeld => ?_)
    clear hK K hS
    have hS := hHeld
    clear hHeld
    try simp only [Act.put, List.setIfInBounds_toArray, List.set_cons_zero, List.set_cons_succ]
    refine op1 8 (fun K hK => ?_)
    go_simp
    have G5 := Lib.hid (G4.out.no (Kp.alloc (w := y4) (.cells #[.int .i64 r3, .int .i64 r4] 54)))
    have D5 := Lib.hid (D4.out.no CT.out (Kp.alloc (w := y4) (.cells #[.int .i64 r3, .int .i64 r4] 54)))
    have SRC5 := Lib.hid (src_lit y4 [.int .i64 r3, .int .i64 r4] 54)
    have NL5 : Hid (∀ g o m k, Value.slice (some ⟨y4.heap.size, 0, none⟩) 2 2 = .slice (some ⟨g, o, none⟩) m k → ¬ (L4).at p g) := Lib.hid (fun g o m k e h => by cases e; have := G4.out.rep.lt _ h; omega)
    refine hK.out _ _ D5.out.S (fun hHeld => ?_)
    clear hK K hS
    have hS := hHeld
    clear hHeld
    try simp only [Act.put, List.setIfInBounds_toArray, List.set_cons_zero, List.set_cons_succ]
    generalize hz5 : y4.heap.size = z5 at *
    generalize y4.alloc (.cells #[.int .i64 r3, .int .i64 r4] 54) = y5 at *
    clear hz5
    have MM5 : Hid (∀ x, x ∈ ([(r3, samF (exW [1])), (r4, rgF 1 true t.i t.i)] : List (Int × Bfn)) → x ∈ ((r4, rgF 1 true t.i t.i) :: (r3, samF (exW [1])) :: (r, dstF (es.drop (es.length - pre.length))) :: B)) := Lib.hid (fun x hx => by
      rcases List.mem_cons.1 hx with rfl | hx
      ·exact (List.Mem.tail _ (List.Mem.head _))
      rcases List.mem_cons.1 hx with rfl | hx
      ·exact (List.Mem.head _)
      cases hx)
    have PP5 : Hid (∀ j, PSt 220 (allF (([(r3, samF (exW [1])), (r4, rgF 1 true t.i t.i)] : List (Int × Bfn)).drop j |>.map Prod.snd)) 729) := Lib.hid (fun j => by
     rw [List.map_drop]
     exact allF_drop (by simp) (fun F hF => by
       rcases List.mem_cons.1 hF with rfl | hF
       ·show PSt 220 (samF (exW [1])) 9
        exact (samF_st _).mono (show 4 ≤ 9 by decide)
       rcases List.mem_cons.1 hF with rfl | hF
       ·show PSt 220 (rgF 1 true t.i t.i) 9
        exact rgF_nine (by decide) _ _
       cases hF) j)
    have CC6 := Lib.hid (all_ok (s := 729) [(r3, samF (exW [1])), (r4, rgF 1 true t.i t.i)] (by simp) (by simp) MM5.out G5.out.rep G5.out.qk G5.out.gl G5.out.off (dv := .slice (some ⟨z5, 0, none⟩) 2 2) SRC5.out NL5.out PP5.out (by (try simp only [List.length_cons, List.length_nil, Nat.zero_add, Nat.reduceAdd, Nat.reduceMul]); have := HC.out; have := HPL.out; omega))
    refine op1 9 (fun K hK => ?_)
    go_simp
    go_at_call 27
    refine CC6.out.mono ?_
    intro e y6 o
    obtain ⟨r6, M6, L6, rfl, _, g, kk, ff, kr⟩ := G5.out.stepK o
    have D6 := Lib.hid (D5.out.step CT.out G5.out.rep kk ff kr)
    have G6 := Lib.hid g
    clear o g kk ff kr CC6
    go_wp2_with fail
    refine hK.out _ _ D6.out.S (fun hHeld => ?_)
    clear hK K hS
    have hS := hHeld
    clear hHeld
    try simp only [Act.put, List.setIfInBounds_toArray, List.set_cons_zero, List.set_cons_succ]
    refine tk 10 hS ?_
    refine wpAnyH_done (by kernel_rfl) ?_ _
    clear hS
    gi_wp2
    have G7 := Lib.hid (G6.out.no (Kp.drew (w := y6)))
    have D7 := Lib.hid (D6.out.no CT.out (Kp.drew (w := y6)))
    refine region_round (S := DS p w.heap.size nb t) (by kernel_rfl) (by kernel_rfl) (fun ⟨_, _, h⟩ => h) D7.out.S (fun hS => ?_)
    generalize y6.drew = y7 at *
    refine tk 0 hS ?_
    refine tk 1 hS ?_
    refine tk 2 hS ?_
    refine tk 3 hS ?_
    refine tk 5 hS ?_
    refine wpAnyH_ready (rs := [4, 6]) (by kernel_rfl) (by simp) ?_
    refine AllReadyH.cons rfl (fun K hK => ?_) (AllReadyH.cons rfl (fun K hK => ?_) AllReadyH.nil)
    ·as_aux_lemma =>
      have CC8 := Lib.hid (value_ok 1 (by omega) false t.o OKT.out.o G7.out.rep G7.out.qk G7.out.gl G7.out.off (by (try simp only [List.length_cons, List.length_nil, Nat.zero_add, Nat.reduceAdd, Nat.reduceMul]); have := HC.out; have := HPL.out; omega))
      go_simp
      go_at_call 29
      refine CC8.out.mono ?_
      intro e y8 o
      obtain ⟨r8, M8, L8, rfl, _, g, kk, ff, kr⟩ := G7.out.stepK o
      have D8 := Lib.hid (D7.out.step CT.out G7.out.rep kk ff kr)
      have G8 := Lib.hid g
      clear o g kk ff kr CC8
      go_wp2_with fail
      refine hK.out _ _ D8.out.S (fun hHeld => ?_)
      clear hK K hS
      have hS := hHeld
      clear hHeld
      try simp only [Act.put, List.setIfInBounds_toArray, List.set_cons_zero, List.set_cons_succ]
      refine op1 6 (fun K hK => ?_)
      have lc := D8.out.c
      go_simp
      clear lc
      refine hK.out _ _ D8.out.S (fun hHeld => ?_)
      clear hK K hS
      have hS := hHeld
      clear hHeld
      try simp only [Act.put, List.setIfInBounds_toArray, List.set_cons_zero, List.set_cons_succ]
      have CC9 := Lib.hid (IteQ G8.out.rep G8.out.qk (List.Mem.head _) (List.Mem.tail _ (List.Mem.head _)) (List.Mem.tail _ (List.Mem.tail _ (List.Mem.tail _ (List.Mem.tail _ (List.Mem.head _))))) PSI.out (by (try simp only [List.length_cons, List.length_nil, Nat.zero_add, Nat.reduceAdd, Nat.reduceMul]); have := HC.out; have := HPL.out; omega))
      refine op1 7 (fun K hK => ?_)
      go_simp
      go_at_call 30
      refine CC9.out.mono ?_
      intro e y9 o
      obtain ⟨r9, M9, L9, rfl, _, g, kk, ff, kr⟩ := G8.out.stepK o
      have D9 := Lib.hid (D8.out.step CT.out G8.out.rep kk ff kr)
      have G9 := Lib.hid g
      clear o g kk ff kr CC9
      go_wp2_with fail
      refine hK.out _ _ D9.out.S (fun hHeld => ?_)
      clear hK K hS
      have hS := hHeld
      clear hHeld
      try simp only [Act.put, List.setIfInBounds_toArray, List.set_cons_zero, List.set_cons_succ]
      refine op1 8 (fun K hK => ?_)
      have lc := D9.out.c
      have lz := D9.out.z
      go_simp
      clear lc lz
      refine hK.out _ _ D9.out.S2 (fun hHeld => ?_)
      clear hK K hS
      have hS := hHeld
      clear hHeld
      try simp only [Act.put, List.setIfInBounds_toArray, List.set_cons_zero, List.set_cons_succ]
      refine wpAnyH_done (by kernel_rfl) ?_ _
      clear hS
      have RES : Hid (KeepsRec y0 (y9.setCell ⟨w1.heap.size, 0, none⟩ (.int .i64 r9)) ∧ BkR (w1.heap.size + 1) b y0 (y9.setCell ⟨w1.heap.size, 0, none⟩ (.int .i64 r9)) ∧ DstI w W0 p c w.heap.size w1.heap.size cs L L1 B es (pre ++ [ts.length - 1 - pre.length]) (y9.setCell ⟨w1.heap.size, 0, none⟩ (.int .i64 r9))) := Lib.hid (by
       obtain ⟨a1, a2, a3, a4, a5, a6, a7⟩ := D9.out.fin CT.out G9.out (by have := HWF.out; omega) GLT.out (by omega) (by have := HBF.out; omega) r9
       refine ⟨a1, a2, r9, M9, L9, ?_, a4, a5, a6, a7⟩
       rw [DR1.out]
       refine ((a3.cong EQ.out).sub (fun x hx => ?_)).mono (by simp [Nat.add_mul]; omega)
       rcases List.mem_cons.1 hx with rfl | hx
       ·exact .head _
       ·exact (.tail _ (.tail _ (.tail _ (.tail _ (.tail _ (.tail _ hx)))))))
      gi_wp2
      exact RES.out
    ·as_aux_lemma =>
      have lc := D7.out.c
      go_simp
      clear lc
      refine hK.out _ _ D7.out.S (fun hHeld => ?_)
      clear hK K hS
      have hS := hHeld
      clear hHeld
      try simp only [Act.put, List.setIfInBounds_toArray, List.set_cons_zero, List.set_cons_succ]
      have CC8 := Lib.hid (value_ok 1 (by omega) false t.o OKT.out.o G7.out.rep G7.out.qk G7.out.gl G7.out.off (by (try simp only [List.length_cons, List.length_nil, Nat.zero_add, Nat.reduceAdd, Nat.reduceMul]); have := HC.out; have := HPL.out; omega))
      refine op1 4 (fun K hK => ?_)
      go_simp
      go_at_call 29
      refine CC8.out.mono ?_
      intro e y8 o
      obtain ⟨r8, M8, L8, rfl, _, g, kk, ff, kr⟩ := G7.out.stepK o
      have D8 := Lib.hid (D7.out.step CT.out G7.out.rep kk ff kr)
      have G8 := Lib.hid g
      clear o g kk ff kr CC8
      go_wp2_with fail
      refine hK.out _ _ D8.out.S (fun hHeld => ?_)
      clear hK K hS
      have hS := hHeld
      clear hHeld
      try simp only [Act.put, List.setIfInBounds_toArray, List.set_cons_zero, List.set_cons_succ]
      have CC9 := Lib.hid (IteQ G8.out.rep G8.out.qk (List.Mem.head _) (List.Mem.tail _ (List.Mem.head _)) (List.Mem.tail _ (List.Mem.tail _ (List.Mem.tail _ (List.Mem.tail _ (List.Mem.head _))))) PSI.out (by (try simp only [List.length_cons, List.length_nil, Nat.zero_add, Nat.reduceAdd, Nat.reduceMul]); have := HC.out; have := HPL.out; omega))
      refine op1 7 (fun K hK => ?_)
      go_simp
      go_at_call 30
      refine CC9.out.mono ?_
      intro e y9 o
      obtain ⟨r9, M9, L9, rfl, _, g, kk, ff, kr⟩ := G8.out.stepK o
      have D9 := Lib.hid (D8.out.step CT.out G8.out.rep kk ff kr)
      have G9 := Lib.hid g
      clear o g kk ff kr CC9
      go_wp2_with fail
      refine hK.out _ _ D9.out.S (fun hHeld => ?_)
      clear hK K hS
      have hS := hHeld
      clear hHeld
      try simp only [Act.put, List.setIfInBounds_toArray, List.set_cons_zero, List.set_cons_succ]
      refine op1 8 (fun K hK => ?_)
      have lc := D9.out.c
      have lz := D9.out.z
      go_simp
      clear lc lz
      refine hK.out _ _ D9.out.S2 (fun hHeld => ?_)
      clear hK K hS
      have hS := hHeld
      clear hHeld
      try simp only [Act.put, List.setIfInBounds_toArray, List.set_cons_zero, List.set_cons_succ]
      refine wpAnyH_done (by kernel_rfl) ?_ _
      clear hS
      have RES : Hid (KeepsRec y0 (y9.setCell ⟨w1.heap.size, 0, none⟩ (.int .i64 r9)) ∧ BkR (w1.heap.size + 1) b y0 (y9.setCell ⟨w1.heap.size, 0, none⟩ (.int .i64 r9)) ∧ DstI w W0 p c w.heap.size w1.heap.size cs L L1 B es (pre ++ [ts.length - 1 - pre.length]) (y9.setCell ⟨w1.heap.size, 0, none⟩ (.int .i64 r9))) := Lib.hid (by
       obtain ⟨a1, a2, a3, a4, a5, a6, a7⟩ := D9.out.fin CT.out G9.out (by have := HWF.out; omega) GLT.out (by omega) (by have := HBF.out; omega) r9
       refine ⟨a1, a2, r9, M9, L9, ?_, a4, a5, a6, a7⟩
       rw [DR1.out]
       refine ((a3.cong EQ.out).sub (fun x hx => ?_)).mono (by simp [Nat.add_mul]; omega)
       rcases List.mem_cons.1 hx with rfl | hx
       ·exact .head _
       ·exact (.tail _ (.tail _ (.tail _ (.tail _ (.tail _ (.tail _ hx)))))))
      gi_wp2
      exact RES.out
  ·as_aux_lemma =>
    have TE : Hid (t.ent ac = .pool t.nm.toList.isEmpty (ac t.nm) t.lo t.hi) := Lib.hid (by unfold Tr.ent; rw [if_neg (by omega), if_pos e1])
    rw [e1] at v0
    have RES : Hid (KeepsRec y0 y0 ∧ BkR (w1.heap.size + 1) b y0 y0 ∧ DstI w W0 p c w.heap.size w1.heap.size cs L L1 B es (pre ++ [ts.length - 1 - pre.length]) y0) := Lib.hid (by
     refine ⟨KeepsRec.refl _, ⟨rfl, rfl⟩, r, M', L', ?_, ⟨D0.out.fr, CT.out.z⟩, D0.out.m, D0.out.q, D0.out.f⟩
     rw [DR1.out]
     refine (G0.out.cong (fun a => ?_)).mono (by simp [Nat.add_mul])
     rw [DROP.out, TE.out, dstF_pool])
    gi_wp2
    exact RES.out
  ·as_aux_lemma =>
    have TE : Hid (t.ent ac = .fwd t.i t.pr.toNat t.ip.toNat t.o t.op.toNat) := Lib.hid (by unfold Tr.ent; rw [if_neg (by omega), if_neg (by omega)])
    obtain ⟨prN, hpr⟩ : ∃ n : Nat, t.pr = (n : Int) := ⟨t.pr.toNat, by omega⟩
    obtain ⟨ipN, hip⟩ : ∃ n : Nat, t.ip = (n : Int) := ⟨t.ip.toNat, by omega⟩
    obtain ⟨opN, hop⟩ : ∃ n : Nat, t.op = (n : Int) := ⟨t.op.toNat, by omega⟩
    have te : t.ent ac = .fwd t.i prN ipN t.o opN := by rw [TE.out, hpr, hip, hop]; rfl
    have TE2 := Lib.hid te
    have EQ : Hid (∀ a, (if (allF [rgF 1 false t.o t.o, rgF 2 false prN prN, rgF 4 false opN opN]) a = true then (allF [samF (exW [1, 4]), rgF 1 true t.i t.i, rgF 4 true ipN ipN]) a else dstF (es.drop (es.length - pre.length)) a) = dstF (es.drop i) a) := Lib.hid (fun a => by rw [DROP.out, TE2.out]; rfl)
    have PSI : Hid (PSt 220 (fun a => if (allF [rgF 1 false t.o t.o, rgF 2 false prN prN, rgF 4 false opN opN]) a = true then (allF [samF (exW [1, 4]), rgF 1 true t.i t.i, rgF 4 true ipN ipN]) a else dstF (es.drop (es.length - pre.length)) a) 4096) := Lib.hid (((dst_st (es.drop i) OKE.out).mono (DB_le DLEN.out)).congr EQ.out)
    have hprN : (prN : Int) < 256 := by omega
    have hipN : (ipN : Int) < 65536 := by omega
    have hopN : (opN : Int) < 65536 := by omega
    have BN : Hid (prN < 4294967296 ∧ ipN < 4294967296 ∧ opN < 4294967296) := Lib.hid ⟨by omega, by omega, by omega⟩
    have DSE : Hid (∀ y, DS p w.heap.size nb t y → DS p w.heap.size nb { t with pr := (prN : Int), ip := (ipN : Int), op := (opN : Int), k := 3 } y) := Lib.hid (fun y h => by unfold DS at h ⊢; dsimp only; rw [← hpr, ← hip, ← hop, ← e1]; exact h)
    rw [e1] at v0
    clear hpr hip hop te h1 h2 h3
    gi_wp2
    clear u2 v0 v1 v2' v3' v4 v5
    have G1 := Lib.hid (G0.out.no (Kp.drew (w := y0)))
    have D1 := Lib.hid (D0.out.no CT.out (Kp.drew (w := y0)))
    refine region_round (S := DS p w.heap.size nb t) (by kernel_rfl) (by kernel_rfl) (fun ⟨_, _, h⟩ => h) D1.out.S (fun hS => ?_)
    generalize y0.drew = y1 at *
    refine tkS 0 DSE.out hS ?_
    refine tkS 1 DSE.out hS ?_
    refine tkS 2 DSE.out hS ?_
    refine tkS 3 DSE.out hS ?_
    refine tkS 5 DSE.out hS ?_
    refine tkS 6 DSE.out hS ?_
    refine tkS 7 DSE.out hS ?_
    refine tkS 8 DSE.out (v := .int .u32 (prN : Int)) hS ?_ (hy := by refine Or.inl ⟨by rfl, fun w hSw => ?_⟩; obtain ⟨hS1, hS2⟩ := hSw; go_simp; first | done | omega | (rw [IntKind.wrap_u32]; omega) | rfl)
    refine tkS 10 DSE.out hS ?_
    refine tkS 11 DSE.out hS ?_
    refine tkS 12 DSE.out hS ?_
    refine tkS 13 DSE.out (v := .int .u32 (opN : Int)) hS ?_ (hy := by refine Or.inl ⟨by rfl, fun w hSw => ?_⟩; obtain ⟨hS1, hS2⟩ := hSw; go_simp; first | done | omega | (rw [IntKind.wrap_u32]; omega) | rfl)
    have CC2 := Lib.hid (value_ok 1 (by omega) false t.o OKT.out.o G1.out.rep G1.out.qk G1.out.gl G1.out.off (by (try simp only [List.length_cons, List.length_nil, Nat.zero_add, Nat.reduceAdd, Nat.reduceMul]); have := HC.out; have := HPL.out; omega))
    refine op1 4 (fun K hK => ?_)
    go_simp
    go_at_call 29
    refine CC2.out.mono ?_
    intro e y2 o
    obtain ⟨r2, M2, L2, rfl, _, g, kk, ff, kr⟩ := G1.out.stepK o
    have D2 := Lib.hid (D1.out.step CT.out G1.out.rep kk ff kr)
    have G2 := Lib.hid g
    clear o g kk ff kr CC2
    go_wp2_with fail
    refine hK.out _ _ D2.out.S (fun hHeld => ?_)
    clear hK K hS
    have hS := hHeld
    clear hHeld
    try simp only [Act.put, List.setIfInBounds_toArray, List.set_cons_zero, List.set_cons_succ]
    have CC3 := Lib.hid (value_ok 2 (by omega) false prN BN.out.1 G2.out.rep G2.out.qk G2.out.gl G2.out.off (by (try simp only [List.length_cons, List.length_nil, Nat.zero_add, Nat.reduceAdd, Nat.reduceMul]); have := HC.out; have := HPL.out; omega))
    refine op1 9 (fun K hK => ?_)
    go_simp
    go_at_call 29
    refine CC3.out.mono ?_
    intro e y3 o
    obtain ⟨r3, M3, L3, rfl, _, g, kk, ff, kr⟩ := G2.out.stepK o
    have D3 := Lib.hid (D2.out.step CT.out G2.out.rep kk ff kr)
    have G3 := Lib.hid g
    clear o g kk ff kr CC3
    go_wp2_with fail
    refine hK.out _ _ D3.out.S (fun hHeld => ?_)
    clear hK K hS
    have hS := hHeld
    clear hHeld
    try simp only [Act.put, List.setIfInBounds_toArray, List.set_cons_zero, List.set_cons_succ]
    have CC4 := Lib.hid (value_ok 4 (by omega) false opN BN.out.2.2 G3.out.rep G3.out.qk G3.out.gl G3.out.off (by (try simp only [List.length_cons, List.length_nil, Nat.zero_add, Nat.reduceAdd, Nat.reduceMul]); have := HC.out; have := HPL.out; omega))
    refine op1 14 (fun K hK => ?_)
    go_simp
    go_at_call 29
    refine CC4.out.mono ?_
    intro e y4 o
    obtain ⟨r4, M4, L4, rfl, _, g, kk, ff, kr⟩ := G3.out.stepK o
    have D4 := Lib.hid (D3.out.step CT.out G3.out.rep kk ff kr)
    have G4 := Lib.hid g
    clear o g kk ff kr CC4
    go_wp2_with fail
    refine hK.out _ _ D4.out.S (fun hHeld => ?_)
    clear hK K hS
    have hS := hHeld
    clear hHeld
    try simp only [Act.put, List.setIfInBounds_toArray, List.set_cons_zero, List.set_cons_succ]
    refine op1 15 (fun K hK => ?_)
    go_simp
    have G5 := Lib.hid (G4.out.no (Kp.alloc (w := y4) (.cells #[.int .i64 r2, .int .i64 r3, .int .i64 r4] 54)))
    have D5 := Lib.hid (D4.out.no CT.out (Kp.alloc (w := y4) (.cells #[.int .i64 r2, .int .i64 r3, .int .i64 r4] 54)))
    have SRC5 := Lib.hid (src_lit y4 [.int .i64 r2, .int .i64 r3, .int .i64 r4] 54)
    have NL5 : Hid (∀ g o m k, Value.slice (some ⟨y4.heap.size, 0, none⟩) 3 3 = .slice (some ⟨g, o, none⟩) m k → ¬ (L4).at p g) := Lib.hid (fun g o m k e h => by cases e; have := G4.out.rep.lt _ h; omega)
    refine hK.out _ _ D5.out.S (fun hHeld => ?_)
    clear hK K hS
    have hS := hHeld
    clear hHeld
    try simp only [Act.put, List.setIfInBounds_toArray, List.set_cons_zero, List.set_cons_succ]
    generalize hz5 : y4.heap.size = z5 at *
    generalize y4.alloc (.cells #[.int .i64 r2, .int .i64 r3, .int .i64 r4] 54) = y5 at *
    clear hz5
    have MM5 : Hid (∀ x, x ∈ ([(r2, rgF 1 false t.o t.o), (r3, rgF 2 false prN prN), (r4, rgF 4 false opN opN)] : List (Int × Bfn)) → x ∈ ((r4, rgF 4 false opN opN) :: (r3, rgF 2 false prN prN) :: (r2, rgF 1 false t.o t.o) :: (r, dstF (es.drop (es.length - pre.length))) :: B)) := Lib.hid (fun x hx => by
      rcases List.mem_cons.1 hx with rfl | hx
      ·exact (List.Mem.tail _ (List.Mem.tail _ (List.Mem.head _)))
      rcases List.mem_cons.1 hx with rfl | hx
      ·exact (List.Mem.tail _ (List.Mem.head _))
      rcases List.mem_cons.1 hx with rfl | hx
      ·exact (List.Mem.head _)
      cases hx)
    have PP5 : Hid (∀ j, PSt 220 (allF (([(r2, rgF 1 false t.o t.o), (r3, rgF 2 false prN prN), (r4, rgF 4 false opN opN)] : List (Int × Bfn)).drop j |>.map Prod.snd)) 729) := Lib.hid (fun j => by
     rw [List.map_drop]
     exact allF_drop (by simp) (fun F hF => by
       rcases List.mem_cons.1 hF with rfl | hF
       ·show PSt 220 (rgF 1 false t.o t.o) 9
        exact rgF_nine (by decide) _ _
       rcases List.mem_cons.1 hF with rfl | hF
       ·show PSt 220 (rgF 2 false prN prN) 9
        exact rgF_nine (by decide) _ _
       rcases List.mem_cons.1 hF with rfl | hF
       ·show PSt 220 (rgF 4 false opN opN) 9
        exact rgF_nine (by decide) _ _
       cases hF) j)
    have CC6 := Lib.hid (all_ok (s := 729) [(r2, rgF 1 false t.o t.o), (r3, rgF 2 false prN prN), (r4, rgF 4 false opN opN)] (by simp) (by simp) MM5.out G5.out.rep G5.out.qk G5.out.gl G5.out.off (dv := .slice (some ⟨z5, 0, none⟩) 3 3) SRC5.out NL5.out PP5.out (by (try simp only [List.length_cons, List.length_nil, Nat.zero_add, Nat.reduceAdd, Nat.reduceMul]); have := HC.out; have := HPL.out; omega))
    refine op1 16 (fun K hK => ?_)
    go_simp
    go_at_call 27
    refine CC6.out.mono ?_
    intro e y6 o
    obtain ⟨r6, M6, L6, rfl, _, g, kk, ff, kr⟩ := G5.out.stepK o
    have D6 := Lib.hid (D5.out.step CT.out G5.out.rep kk ff kr)
    have G6 := Lib.hid g
    clear o g kk ff kr CC6
    go_wp2_with fail
    refine hK.out _ _ D6.out.S (fun hHeld => ?_)
    clear hK K hS
    have hS := hHeld
    clear hHeld
    try simp only [Act.put, List.setIfInBounds_toArray, List.set_cons_zero, List.set_cons_succ]
    refine tkS 17 DSE.out hS ?_
    refine wpAnyH_done (by kernel_rfl) ?_ _
    clear hS
    gi_wp2
    have G7 := Lib.hid (G6.out.no (Kp.drew (w := y6)))
    have D7 := Lib.hid (D6.out.no CT.out (Kp.drew (w := y6)))
    refine region_round (S := DS p w.heap.size nb t) (by kernel_rfl) (by kernel_rfl) (fun ⟨_, _, h⟩ => h) D7.out.S (fun hS => ?_)
    generalize y6.drew = y7 at *
    refine tkS 0 DSE.out hS ?_
    refine tkS 1 DSE.out hS ?_
    refine tkS 4 DSE.out hS ?_
    refine tkS 5 DSE.out hS ?_
    refine tkS 6 DSE.out hS ?_
    refine tkS 8 DSE.out hS ?_
    refine tkS 9 DSE.out hS ?_
    refine tkS 10 DSE.out hS ?_
    refine tkS 11 DSE.out (v := .int .u32 (ipN : Int)) hS ?_ (hy := by refine Or.inl ⟨by rfl, fun w hSw => ?_⟩; obtain ⟨hS1, hS2⟩ := hSw; go_simp; first | done | omega | (rw [IntKind.wrap_u32]; omega) | rfl)
    refine op1 2 (fun K hK => ?_)
    go_simp
    have G8 := Lib.hid (G7.out.no (Kp.alloc (w := y7) (.cells #[.int .i64 1, .int .i64 4] 3)))
    have D8 := Lib.hid (D7.out.no CT.out (Kp.alloc (w := y7) (.cells #[.int .i64 1, .int .i64 4] 3)))
    have SRC8 := Lib.hid (src_lit y7 [.int .i64 1, .int .i64 4] 3)
    have NL8 : Hid (∀ g o m k, Value.slice (some ⟨y7.heap.size, 0, none⟩) 2 2 = .slice (some ⟨g, o, none⟩) m k → ¬ (L6).at p g) := Lib.hid (fun g o m k e h => by cases e; have := G7.out.rep.lt _ h; omega)
    refine hK.out _ _ D8.out.S (fun hHeld => ?_)
    clear hK K hS
    have hS := hHeld
    clear hHeld
    try simp only [Act.put, List.setIfInBounds_toArray, List.set_cons_zero, List.set_cons_succ]
    generalize hz8 : y7.heap.size = z8 at *
    generalize y7.alloc (.cells #[.int .i64 1, .int .i64 4] 3) = y8 at *
    clear hz8
    have CC9 := Lib.hid (except_ok [1, 4] (by simp) G8.out.rep G8.out.qk G8.out.gl G8.out.off (dv := .slice (some ⟨z8, 0, none⟩) 2 2) SRC8.out (by (try simp only [List.length_cons, List.length_nil, Nat.zero_add, Nat.reduceAdd, Nat.reduceMul]); have := HC.out; have := HPL.out; omega))
    refine op1 3 (fun K hK => ?_)
    go_simp
    go_at_call 28
    refine CC9.out.mono ?_
    intro e y9 o
    obtain ⟨r9, M9, L9, rfl, _, g, kk, ff, kr⟩ := G8.out.stepK o
    have D9 := Lib.hid (D8.out.step CT.out G8.out.rep kk ff kr)
    have G9 := Lib.hid g
    clear o g kk ff kr CC9
    go_wp2_with fail
    refine hK.out _ _ D9.out.S (fun hHeld => ?_)
    clear hK K hS
    have hS := hHeld
    clear hHeld
    try simp only [Act.put, List.setIfInBounds_toArray, List.set_cons_zero, List.set_cons_succ]
    have CC10 := Lib.hid (value_ok 1 (by omega) true t.i OKT.out.i G9.out.rep G9.out.qk G9.out.gl G9.out.off (by (try simp only [List.length_cons, List.length_nil, Nat.zero_add, Nat.reduceAdd, Nat.reduceMul]); have := HC.out; have := HPL.out; omega))
    refine op1 7 (fun K hK => ?_)
    go_simp
    go_at_call 29
    refine CC10.out.mono ?_
    intro e y10 o
    obtain ⟨r10, M10, L10, rfl, _, g, kk, ff, kr⟩ := G9.out.stepK o
    have D10 := Lib.hid (D9.out.step CT.out G9.out.rep kk ff kr)
    have G10 := Lib.hid g
    clear o g kk ff kr CC10
    go_wp2_with fail
    refine hK.out _ _ D10.out.S (fun hHeld => ?_)
    clear hK K hS
    have hS := hHeld
    clear hHeld
    try simp only [Act.put, List.setIfInBounds_toArray, List.set_cons_zero, List.set_cons_succ]
    have CC11 := Lib.hid (value_ok 4 (by omega) true ipN BN.out.2.1 G10.out.rep G10.out.qk G10.out.gl G10.out.off (by (try simp only [List.length_cons, List.length_nil, Nat.zero_add, Nat.reduceAdd, Nat.reduceMul]); have := HC.out; have := HPL.out; omega))
    refine op1 12 (fun K hK => ?_)
    go_simp
    go_at_call 29
    refine CC11.out.mono ?_
    intro e y11 o
    obtain ⟨r11, M11, L11, rfl, _, g, kk, ff, kr⟩ := G10.out.stepK o
    have D11 := Lib.hid (D10.out.step CT.out G10.out.rep kk ff kr)
    have G11 := Lib.hid g
    clear o g kk ff kr CC11
    go_wp2_with fail
    refine hK.out _ _ D11.out.S (fun hHeld => ?_)
    clear hK K hS
    have hS := hHeld
    clear hHeld
    try simp only [Act.put, List.setIfInBounds_toArray, List.set_cons_zero, List.set_cons_succ]
    refine op1 13 (fun K hK => ?_)
    go_simp
    have G12 := Lib.hid (G11.out.no (Kp.alloc (w := y11) (.cells #[.int .i64 r9, .int .i64 r10, .int .i64 r11] 54)))
    have D12 := Lib.hid (D11.out.no CT.out (Kp.alloc (w := y11) (.cells #[.int .i64 r9, .int .i64 r10, .int .i64 r11] 54)))
    have SRC12 := Lib.hid (src_lit y11 [.int .i64 r9, .int .i64 r10, .int .i64 r11] 54)
    have NL12 : Hid (∀ g o m k, Value.slice (some ⟨y11.heap.size, 0, none⟩) 3 3 = .slice (some ⟨g, o, none⟩) m k → ¬ (L11).at p g) := Lib.hid (fun g o m k e h => by cases e; have := G11.out.rep.lt _ h; omega)
    refine hK.out _ _ D12.out.S (fun hHeld => ?_)
    clear hK K hS
    have hS := hHeld
    clear hHeld
    try simp only [Act.put, List.setIfInBounds_toArray, List.set_cons_zero, List.set_cons_succ]
    generalize hz12 : y11.heap.size = z12 at *
    generalize y11.alloc (.cells #[.int .i64 r9, .int .i64 r10, .int .i64 r11] 54) = y12 at *
    clear hz12
    have MM12 : Hid (∀ x, x ∈ ([(r9, samF (exW [1, 4])), (r10, rgF 1 true t.i t.i), (r11, rgF 4 true ipN ipN)] : List (Int × Bfn)) → x ∈ ((r11, rgF 4 true ipN ipN) :: (r10, rgF 1 true t.i t.i) :: (r9, samF (exW [1, 4])) :: (r6, allF [rgF 1 false t.o t.o, rgF 2 false prN prN, rgF 4 false opN opN]) :: (r4, rgF 4 false opN opN) :: (r3, rgF 2 false prN prN) :: (r2, rgF 1 false t.o t.o) :: (r, dstF (es.drop (es.length - pre.length))) :: B)) := Lib.hid (fun x hx => by
      rcases List.mem_cons.1 hx with rfl | hx
      ·exact (List.Mem.tail _ (List.Mem.tail _ (List.Mem.head _)))
      rcases List.mem_cons.1 hx with rfl | hx
      ·exact (List.Mem.tail _ (List.Mem.head _))
      rcases List.mem_cons.1 hx with rfl | hx
      ·exact (List.Mem.head _)
      cases hx)
    have PP12 : Hid (∀ j, PSt 220 (allF (([(r9, samF (exW [1, 4])), (r10, rgF 1 true t.i t.i), (r11, rgF 4 true ipN ipN)] : List (Int × Bfn)).drop j |>.map Prod.snd)) 729) := Lib.hid (fun j => by
     rw [List.map_drop]
     exact allF_drop (by simp) (fun F hF => by
       rcases List.mem_cons.1 hF with rfl | hF
       ·show PSt 220 (samF (exW [1, 4])) 9
        exact (samF_st _).mono (show 4 ≤ 9 by decide)
       rcases List.mem_cons.1 hF with rfl | hF
       ·show PSt 220 (rgF 1 true t.i t.i) 9
        exact rgF_nine (by decide) _ _
       rcases List.mem_cons.1 hF with rfl | hF
       ·show PSt 220 (rgF 4 true ipN ipN) 9
        exact rgF_nine (by decide) _ _
       cases hF) j)
    have CC13 := Lib.hid (all_ok (s := 729) [(r9, samF (exW [1, 4])), (r10, rgF 1 true t.i t.i), (r11, rgF 4 true ipN ipN)] (by simp) (by simp) MM12.out G12.out.rep G12.out.qk G12.out.gl G12.out.off (dv := .slice (some ⟨z12, 0, none⟩) 3 3) SRC12.out NL12.out PP12.out (by (try simp only [List.length_cons, List.length_nil, Nat.zero_add, Nat.reduceAdd, Nat.reduceMul]); have := HC.out; have := HPL.out; omega))
    refine op1 14 (fun K hK => ?_)
    go_simp
    go_at_call 27
    refine CC13.out.mono ?_
    intro e y13 o
    obtain ⟨r13, M13, L13, rfl, _, g, kk, ff, kr⟩ := G12.out.stepK o
    have D13 := Lib.hid (D12.out.step CT.out G12.out.rep kk ff kr)
    have G13 := Lib.hid g
    clear o g kk ff kr CC13
    go_wp2_with fail
    refine hK.out _ _ D13.out.S (fun hHeld => ?_)
    clear hK K hS
    have hS := hHeld
    clear hHeld
    try simp only [Act.put, List.setIfInBounds_toArray, List.set_cons_zero, List.set_cons_succ]
    refine tkS 15 DSE.out hS ?_
    refine wpAnyH_done (by kernel_rfl) ?_ _
    clear hS
    have u2 := D13.out.S.1
    have lc := D13.out.c
    have lz := D13.out.z
    have CC14 := Lib.hid (IteQ G13.out.rep G13.out.qk (List.Mem.tail _ (List.Mem.tail _ (List.Mem.tail _ (List.Mem.tail _ (List.Mem.head _))))) (List.Mem.head _) (List.Mem.tail _ (List.Mem.tail _ (List.Mem.tail _ (List.Mem.tail _ (List.Mem.tail _ (List.Mem.tail _ (List.Mem.tail _ (List.Mem.tail _ (List.Mem.head _))))))))) PSI.out (by (try simp only [List.length_cons, List.length_nil, Nat.zero_add, Nat.reduceAdd, Nat.reduceMul]); have := HC.out; have := HPL.out; omega))
    gi_wp2_with fail
    refine ⟨trivial, CallsIn.mono (calls_round CC14.out (fun _ _ h => h)) ?_⟩
    intro e y14 o
    obtain ⟨r14, M14, L14, rfl, _, g, kk, ff, kr⟩ := G13.out.stepK o
    have D14 := Lib.hid (D13.out.step CT.out G13.out.rep kk ff kr)
    have G14 := Lib.hid g
    clear o g kk ff kr CC14
    clear u2 lc lz
    have lc := D14.out.c
    have lz := D14.out.z
    have RES : Hid (KeepsRec y0 (y14.setCell ⟨w1.heap.size, 0, none⟩ (.int .i64 r14)) ∧ BkR (w1.heap.size + 1) b y0 (y14.setCell ⟨w1.heap.size, 0, none⟩ (.int .i64 r14)) ∧ DstI w W0 p c w.heap.size w1.heap.size cs L L1 B es (pre ++ [ts.length - 1 - pre.length]) (y14.setCell ⟨w1.heap.size, 0, none⟩ (.int .i64 r14))) := Lib.hid (by
     obtain ⟨a1, a2, a3, a4, a5, a6, a7⟩ := D14.out.fin CT.out G14.out (by have := HWF.out; omega) GLT.out (by omega) (by have := HBF.out; omega) r14
     refine ⟨a1, a2, r14, M14, L14, ?_, a4, a5, a6, a7⟩
     rw [DR1.out]
     refine ((a3.cong EQ.out).sub (fun x hx => ?_)).mono (by simp [Nat.add_mul]; omega)
     rcases List.mem_cons.1 hx with rfl | hx
     ·exact .head _
     ·exact (.tail _ (.tail _ (.tail _ (.tail _ (.tail _ (.tail _ (.tail _ (.tail _ (.tail _ (.tail _ hx)))))))))))
    gi_wp2
    exact RES.out
 case done =>
  rintro D W hD ⟨r, M', L', h, ⟨fr, hsW⟩, b1, b2, b3⟩ hK
  have c2 : W.cell? ⟨w1.heap.size, 0, none⟩ = some (.int .i64 r) := by rw [cell_of_row _ _ _ _ _ _ b3]; rfl
  rw [bkN_len, ESL.out, Nat.sub_self, List.drop_zero] at h
  have hcost : c + 20000000 + ts.length * 100000000 ≤ c + 1000000000 := by omega
  have RET : Hid (OpQ p 220 (c + 1000000000) L w (dstF (ts.map (Tr.ent ac))) B (.returned (.int .i64 r)) (W.putObj D (.deferred none))) := Lib.hid (by
   rw [← ES.out]
   exact (h.put (by omega) hK rfl _).ret (.head _) (fun x hx => .tail _ hx) hcost)
  clear h
  go_wp2
  refine ⟨by simp, .inl ⟨_, _, rfl, run_takeDeferred hK, ?_⟩⟩
  refine ⟨_, results_tmp rfl _ _ _, ?_⟩
  exact RET.out

end Go.Proofs.YtdgnbbmgcgfibaaGreatDoor

namespace Go.Proofs.YtdgnbbmgcgfibaaGreatDoor
open Go.RowKit

set_option maxRecDepth 100000 in
set_option maxHeartbeats 2000000 in
theorem PWithin_ok {p c : Nat} {M : Mgr} {L : Lay} {B : List (Int × Bfn)} (k : Nat) (hk : k < 5) (lo hi : Int) {w : World} (R : Rep w p M L) (q : Qk 220 c M B) (g : Gl w) (ho : ¬ L.at p 0) (hc : c ≤ 500000000000) :
  Calls Tryz.prog 102 #[ptr p, .int .i64 (k : Int), .int .i64 lo, .int .i64 hi] w (OpQ p 220 (c + 10000000) L w (wnF k lo hi) B) := by
 have H := Lib.hid (Hf.start R q g ho)
 have RG := Lib.hid (fun (x y : Nat) (hx : x < 4294967296) (hy : y < 4294967296) => Range_ok k hk false x y hx hy R q g ho hc)
 clear R q g ho
 by_cases hgt : max lo 0 ≤ min hi 65535
 ·obtain ⟨x, hx⟩ : ∃ x : Nat, max lo 0 = (x : Int) := ⟨(max lo 0).toNat, by omega⟩
  obtain ⟨y, hy⟩ : ∃ y : Nat, min hi 65535 = (y : Int) := ⟨(min hi 65535).toNat, by omega⟩
  have hx2 : (x : Int) ≤ 65535 := by omega
  have hy2 : (y : Int) ≤ 65535 := by omega
  have hng : ¬ (x : Int) > y := by omega
  have EF : Hid (wnF k lo hi = rgF k false x y) := Lib.hid (by
   unfold wnF wnP
   rw [if_pos hgt]
   dsimp only
   rw [hx, hy]
   rfl)
  have RX := Lib.hid (RG.out x y (by omega) (by omega))
  have hmx : (if lo < 0 then (0 : Int) else lo) = (x : Int) := by omega
  have hmn : (if hi ≤ 65535 then hi else (65535 : Int)) = (y : Int) := by omega
  have FIN : Hid (∀ (e : Ending) (w' : World), OpQ p 220 (c + 10000000) L w (rgF k false x y) B e w' → ∃ r : Int, e = .returned (.int .i64 r) ∧ OpQ p 220 (c + 10000000) L w (wnF k lo hi) B (.returned (.int .i64 r)) w') := Lib.hid (fun e w' o => by
   obtain ⟨r, M2, L2, rfl, _, h2⟩ := H.out.step o
   exact ⟨r, rfl, by rw [EF.out]; exact o⟩)
  clear RG hgt
  go_enter Tryz.func102, Tryz.ntmps102
  go_wp2_with fail
  ·have e1 : (y : Int) = 65535 := by omega
   rw [e1] at RX
   clear hy hmn hmx
   refine RX.out.mono ?_
   intro e w' o
   obtain ⟨r, rfl, o2⟩ := FIN.out e w' o
   have RET := Lib.hid o2
   clear o o2 FIN RX EF
   go_wp2_with fail
   go_ret
   exact RET.out
  ·have e1 : hi = (y : Int) := by omega
   rw [e1]
   clear hy hmn hmx
   refine RX.out.mono ?_
   intro e w' o
   obtain ⟨r, rfl, o2⟩ := FIN.out e w' o
   have RET := Lib.hid o2
   clear o o2 FIN RX EF
   go_wp2_with fail
   go_ret
   exact RET.out
 ·have RET : Hid (OpQ p 220 (c + 10000000) L w (wnF k lo hi) B (.returned (.int .i64 0)) w) := Lib.hid (by
   refine ((H.out.consts.sub (B' := (0, fun _ => false) :: B) (fun x hx => ?_)).cong (fun a => ?_)).ret (.head _) (fun x hx => .tail _ hx) (Nat.le_add_right _ _)
   ·rcases List.mem_cons.1 hx with rfl | hx
    ·exact .head _
    ·exact .tail _ (.tail _ hx)
   ·unfold wnF wnP
    rw [if_neg hgt]
    exact (rgF_no (.inl (by decide)) a).symm)
  clear RG
  have hng : min hi 65535 < max lo 0 := by omega
  clear hgt
  go_enter Tryz.func102, Tryz.ntmps102
  go_wp2_with fail
  all_goals (go_ret; exact RET.out)

def Ru.v (x : Ru) : Array Value := #[.bool x.pm, .int .i64 x.pr, .int .u32 (x.sa : Int), .int .u32 (x.sm : Int), .int .u32 (x.da : Int), .int .u32 (x.dm : Int), .int .i64 x.sl, .int .i64 x.sh, .int .i64 x.dl, .int .i64 x.dh]
structure Ru.ok (x : Ru) : Prop where
 sa : x.sa < 4294967296
 sm : x.sm < 4294967296
 da : x.da < 4294967296
 dm : x.dm < 4294967296
theorem ru_ty {w : World} {p l : Nat} {M : Mgr} {L : Lay} {c : Array Value} {fr : Nat × Nat} (R : Rep w p M L) (hl : w.heap[l]? = some (.cells c 128 fr)) : ¬ L.at p l := fun h => by
 obtain ⟨F, raw, _⟩ := R.raw
 have row : ∀ {base : Nat} {e : TypeId} {size n : Nat} {v : Value} {xs : List Value}, w.ownsRow base e size v n xs → e ≠ 128 → v.ownBlock ≠ some l := fun h hne hv => by
  rcases h.2 with ⟨hv0, h0⟩ | ⟨g, cap, cur, hv0, hg1, hg2, hg3, _, hg5, hg6⟩
  ·rw [hv0] at hv; cases hv
  ·rw [hv0] at hv
   cases hv
   rw [hl] at hg2
   cases hg2
   exact hne rfl
 rcases h with rfl | rfl | rfl | h | h | h | h | h
 ·have := raw.mgr
  rw [hl] at this
  injection this with this
  injection this with _ this
  exact absurd this (by decide)
 ·obtain ⟨es, clock, hb, _⟩ := raw.uniq
  rw [hl] at hb
  cases hb
 ·obtain ⟨es, clock, hb, _⟩ := raw.memo
  rw [hl] at hb
  cases hb
 ·exact row raw.order (by decide) h
 ·exact row raw.level (by decide) h
 ·exact row raw.nodes (by decide) h
 ·exact row raw.shown (by decide) h
 ·exact row raw.free (by decide) h

def RuS (b : Nat) (x : Ru) (y : World) : Prop := y.cell? ⟨b, 1, none⟩ = some (.int .i64 x.pr) ∧ y.cell? ⟨b, 2, none⟩ = some (.int .u32 (x.sa : Int)) ∧ y.cell? ⟨b, 3, none⟩ = some (.int .u32 (x.sm : Int)) ∧ y.cell? ⟨b, 4, none⟩ = some (.int .u32 (x.da : Int)) ∧ y.cell? ⟨b, 5, none⟩ = some (.int .u32 (x.dm : Int)) ∧ y.cell? ⟨b, 6, none⟩ = some (.int .i64 x.sl) ∧ y.cell? ⟨b, 7, none⟩ = some (.int .i64 x.sh) ∧ y.cell? ⟨b, 8, none⟩ = some (.int .i64 x.dl) ∧ y.cell? ⟨b, 9, none⟩ = some (.int .i64 x.dh)
theorem RuS.of {b : Nat} {x : Ru} {y : World} (h : y.heap[b]? = some (.cells x.v 128 (0, 0))) : RuS b x y := by
 refine ⟨?_, ?_, ?_, ?_, ?_, ?_, ?_, ?_, ?_⟩ <;> (rw [cell_of_row _ _ _ _ _ _ h]; rfl)

set_option maxRecDepth 1000000 in
set_option maxHeartbeats 8000000 in
theorem Rule_ok {p c : Nat} {M : Mgr} {L : Lay} {B : List (Int × Bfn)} (x : Ru) (hx : x.ok) {w : World} (R : Rep w p M L) (q : Qk 220 c M B) (g : Gl w) (ho : ¬ L.at p 0) (hc : c ≤ 400000000000) :
  Calls Tryz.prog 67 #[ptr p, .agg x.v] w (OpQ p 220 (c + 100000000) L w x.F B) := by
 have H := Lib.hid (Hf.start R q g ho)
 have RLT := Lib.hid R.lt
 have HC := Lib.hid hc
 have HX := Lib.hid hx
 have S0 : Hid (Hf w p L 220 c (w.alloc (.cells x.v 128)) M L B) := Lib.hid (H.out.no (Kp.alloc _))
 have h0 := heap_alloc_new w (.cells x.v 128)
 have STEP : Hid (∀ (y y' : World) (M1 : Mgr) (L1 : Lay), Rep y p M1 L1 → Kp (L1.at p) y y' → y.heap[w.heap.size]? = some (.cells x.v 128 (0, 0)) → y'.heap[w.heap.size]? = some (.cells x.v 128 (0, 0))) := Lib.hid (fun y y' M1 L1 r k h => (k.block _ (heap_lt h) (ru_ty r h)).trans h)
 clear R q g hc hx
 unfold Ru.v at h0 S0 STEP ⊢
 go_enter Tryz.func67, Tryz.ntmps67
 go_upto_region 1 with fail
 generalize w.alloc (.cells #[.bool x.pm, .int .i64 x.pr, .int .u32 (x.sa : Int), .int .u32 (x.sm : Int), .int .u32 (x.da : Int), .int .u32 (x.dm : Int), .int .i64 x.sl, .int .i64 x.sh, .int .i64 x.dl, .int .i64 x.dh] 128) = X at *
 have G0 := Lib.hid (S0.out.no (Kp.drew (w := X)))
 have B0 : Hid (X.drew.heap[w.heap.size]? = some (.cells x.v 128 (0, 0))) := Lib.hid h0
 have SC := Lib.hid (RuS.of B0.out)
 have W1 : Hid (Calls Tryz.prog 68 #[ptr p, .int .i64 0, .bool false, .agg #[.int .u32 (x.sa : Int), .int .u32 (x.sm : Int)]] X.drew (OpQ p 220 (c + 10000000) L X.drew (wiF 0 false x.sa x.sm 32) B)) := Lib.hid (Wild_ok 0 (by omega) false x.sa x.sm HX.out.sa HX.out.sm G0.out.rep G0.out.qk G0.out.gl G0.out.off (by have := HC.out; omega))
 clear h0
 go_region_held3 (fun y => y.cell? ⟨w.heap.size, 1, none⟩ = some (.int .i64 x.pr) ∧ y.cell? ⟨w.heap.size, 2, none⟩ = some (.int .u32 (x.sa : Int)) ∧ y.cell? ⟨w.heap.size, 3, none⟩ = some (.int .u32 (x.sm : Int)) ∧ y.cell? ⟨w.heap.size, 4, none⟩ = some (.int .u32 (x.da : Int)) ∧ y.cell? ⟨w.heap.size, 5, none⟩ = some (.int .u32 (x.dm : Int)) ∧ y.cell? ⟨w.heap.size, 6, none⟩ = some (.int .i64 x.sl) ∧ y.cell? ⟨w.heap.size, 7, none⟩ = some (.int .i64 x.sh) ∧ y.cell? ⟨w.heap.size, 8, none⟩ = some (.int .i64 x.dl) ∧ y.cell? ⟨w.heap.size, 9, none⟩ = some (.int .i64 x.dh)) (first | exact SC.out | exact SA.out | exact SB.out | exact SD.out)
  (first | (go_at_call 68; (with_reducible refine W1.out.mono ?_); intro e ya o; obtain ⟨r1, M1, L1, rfl, _, g1, k1, f1, _⟩ := G0.out.stepK o; have G1 := Lib.hid g1; have B1 := Lib.hid (STEP.out _ _ _ _ G0.out.rep k1 B0.out); have SA := Lib.hid (RuS.of B1.out); clear o g1 k1 f1 W1; have W2 : Hid (Calls Tryz.prog 68 #[ptr p, .int .i64 1, .bool false, .agg #[.int .u32 (x.da : Int), .int .u32 (x.dm : Int)]] ya (OpQ p 220 (c + 10000000 + 10000000) L1 ya (wiF 1 false x.da x.dm 32) ((r1, wiF 0 false x.sa x.sm 32) :: B))) := Lib.hid (Wild_ok 1 (by omega) false x.da x.dm HX.out.da HX.out.dm G1.out.rep G1.out.qk G1.out.gl G1.out.off (by have := HC.out; omega))) | (go_at_call 68; (with_reducible refine W2.out.mono ?_); intro e yb o; obtain ⟨r2, M2, L2, rfl, _, g2, k2, f2, _⟩ := G1.out.stepK o; have G2 := Lib.hid g2; have B2 := Lib.hid (STEP.out _ _ _ _ G1.out.rep k2 B1.out); have SB := Lib.hid (RuS.of B2.out); clear o g2 k2 f2 W2; have AN := Lib.hid (AndQ G2.out.rep G2.out.qk (.tail _ (.head _)) (.head _) (s := 2) ((PSt.cube (x.wi_cube)).congr (fun _ => rfl)) (by have := HC.out; omega))) | (go_at_call 17; (with_reducible refine AN.out.mono ?_); intro e yc o; obtain ⟨r3, M3, L3, rfl, _, g3, k3, f3, _⟩ := G2.out.stepK o; have G3 := Lib.hid g3; have B3 := Lib.hid (STEP.out _ _ _ _ G2.out.rep k3 B2.out); have SD := Lib.hid (RuS.of B3.out); clear o g3 k3 f3 AN))
 have SDD := Lib.hid SD.out
 obtain ⟨s1, s2, s3, s4, s5, s6, s7, s8, s9⟩ := RuS.of B3.out
 clear SC SA SB SD SDD
 by_cases hpr : x.pr = -1
 ·have hprb : (x.pr == -1) = true := by simp [hpr]
  have G4 := Lib.hid ((G3.out.cong (G := x.cu) (fun a => by unfold Ru.cu; rw [decide_eq_true hpr, Bool.true_or, Bool.and_true]; rfl)).sub (B' := (r3, x.cu) :: B) (fun z hz => by
   rcases List.mem_cons.1 hz with rfl | hz
   ·exact List.Mem.head _
   ·exact List.Mem.tail _ (List.Mem.tail _ (List.Mem.tail _ hz))))
  clear G3
  go_upto_region 4 with fail
  clear s1 s2 s3 s4 s5 s6 s7 s8 s9 hpr hprb
  obtain ⟨s1, s2, s3, s4, s5, s6, s7, s8, s9⟩ := RuS.of B3.out
  have PWp3 : Hid (Calls Tryz.prog 102 #[ptr p, .int .i64 3, .int .i64 x.sl, .int .i64 x.sh] yc _) := Lib.hid (PWithin_ok 3 (by omega) x.sl x.sh G4.out.rep G4.out.qk G4.out.gl G4.out.off (by have := HC.out; omega))
  go_wp2_with fail
  refine PWp3.out.mono ?_
  intro e yp31 o
  obtain ⟨rp31, Mp31, Lp31, rfl, _, g, k, f, _⟩ := G4.out.stepK o
  have Gp31 := Lib.hid g
  have Bp31 := Lib.hid (STEP.out _ _ _ _ G4.out.rep k B3.out)
  clear o g k f PWp3 s1 s2 s3 s4 s5 s6 s7 s8 s9
  have ANp3 := Lib.hid (AndQ Gp31.out.rep Gp31.out.qk (f := r3) (g := rp31) (F := x.cu) (List.Mem.tail _ (List.Mem.head _)) (List.Mem.head _) (s := 30) ((x.c1_st).mono (show 12 ≤ 30 by decide)) (by have := HC.out; omega))
  go_wp2_with fail
  refine ANp3.out.mono ?_
  intro e yp32 o
  obtain ⟨rp32, Mp32, Lp32, rfl, _, g, k, f, _⟩ := Gp31.out.stepK o
  have Gp32 := Lib.hid ((g.cong (G := x.c1) (fun a => rfl)).sub (B' := (rp32, x.c1) :: B) (fun z hz => by
   rcases List.mem_cons.1 hz with rfl | hz
   ·exact List.Mem.head _
   ·exact List.Mem.tail _ (List.Mem.tail _ (List.Mem.tail _ hz))))
  have Bp32 := Lib.hid (STEP.out _ _ _ _ Gp31.out.rep k Bp31.out)
  clear o g k f ANp3
  obtain ⟨s1, s2, s3, s4, s5, s6, s7, s8, s9⟩ := RuS.of Bp32.out
  have PWp4 : Hid (Calls Tryz.prog 102 #[ptr p, .int .i64 4, .int .i64 x.dl, .int .i64 x.dh] yp32 _) := Lib.hid (PWithin_ok 4 (by omega) x.dl x.dh Gp32.out.rep Gp32.out.qk Gp32.out.gl Gp32.out.off (by have := HC.out; omega))
  go_wp2_with fail
  refine PWp4.out.mono ?_
  intro e yp41 o
  obtain ⟨rp41, Mp41, Lp41, rfl, _, g, k, f, _⟩ := Gp32.out.stepK o
  have Gp41 := Lib.hid g
  have Bp41 := Lib.hid (STEP.out _ _ _ _ Gp32.out.rep k Bp32.out)
  clear o g k f PWp4 s1 s2 s3 s4 s5 s6 s7 s8 s9
  have ANp4 := Lib.hid (AndQ Gp41.out.rep Gp41.out.qk (f := rp32) (g := rp41) (F := x.c1) (List.Mem.tail _ (List.Mem.head _)) (List.Mem.head _) (s := 30) ((x.F_st).mono (show 22 ≤ 30 by decide)) (by have := HC.out; omega))
  go_wp2_with fail
  refine ANp4.out.mono ?_
  intro e yp42 o
  obtain ⟨rp42, Mp42, Lp42, rfl, _, g, k, f, _⟩ := Gp41.out.stepK o
  have Gp42 := Lib.hid ((g.cong (G := x.F) (fun a => rfl)).sub (B' := (rp42, x.F) :: B) (fun z hz => by
   rcases List.mem_cons.1 hz with rfl | hz
   ·exact List.Mem.head _
   ·exact List.Mem.tail _ (List.Mem.tail _ (List.Mem.tail _ hz))))
  have Bp42 := Lib.hid (STEP.out _ _ _ _ Gp41.out.rep k Bp41.out)
  clear o g k f ANp4
  have RET := Lib.hid (Gp42.out.ret (B0 := B) (List.Mem.head _) (fun z hz => List.Mem.tail _ hz) (show _ ≤ c + 100000000 by omega))
  go_wp2_with fail
  go_ret
  exact RET.out
 ·have hprb : (x.pr == -1) = false := by simp [hpr]
  have HPR := Lib.hid hpr
  have G4 := Lib.hid ((G3.out.cong (G := x.wi) (fun a => rfl)).sub (B' := (r3, x.wi) :: B) (fun z hz => by
   rcases List.mem_cons.1 hz with rfl | hz
   ·exact List.Mem.head _
   ·exact List.Mem.tail _ (List.Mem.tail _ (List.Mem.tail _ hz))))
  clear G3
  go_upto_region 3 with fail
  clear s1 s2 s3 s4 s5 s6 s7 s8 s9 hpr hprb
  obtain ⟨s1, s2, s3, s4, s5, s6, s7, s8, s9⟩ := RuS.of B3.out
  have PWq : Hid (Calls Tryz.prog 102 #[ptr p, .int .i64 2, .int .i64 x.pr, .int .i64 x.pr] yc _) := Lib.hid (PWithin_ok 2 (by omega) x.pr x.pr G4.out.rep G4.out.qk G4.out.gl G4.out.off (by have := HC.out; omega))
  go_wp2_with fail
  refine PWq.out.mono ?_
  intro e yq1 o
  obtain ⟨rq1, Mq1, Lq1, rfl, _, g, k, f, _⟩ := G4.out.stepK o
  have Gq1 := Lib.hid g
  have Bq1 := Lib.hid (STEP.out _ _ _ _ G4.out.rep k B3.out)
  clear o g k f PWq s1 s2 s3 s4 s5 s6 s7 s8 s9
  have ANq := Lib.hid (AndQ Gq1.out.rep Gq1.out.qk (f := r3) (g := rq1) (F := x.wi) (List.Mem.tail _ (List.Mem.head _)) (List.Mem.head _) (s := 30) (((PSt.cube x.cu_cube).congr (fun a => by unfold Ru.cu; rw [decide_eq_false HPR.out, Bool.false_or])).mono (show 2 ≤ 30 by decide)) (by have := HC.out; omega))
  go_wp2_with fail
  refine ANq.out.mono ?_
  intro e yq2 o
  obtain ⟨rq2, Mq2, Lq2, rfl, _, g, k, f, _⟩ := Gq1.out.stepK o
  have Gq2 := Lib.hid ((g.cong (G := x.cu) (fun a => by unfold Ru.cu; rw [decide_eq_false HPR.out, Bool.false_or])).sub (B' := (rq2, x.cu) :: B) (fun z hz => by
   rcases List.mem_cons.1 hz with rfl | hz
   ·exact List.Mem.head _
   ·exact List.Mem.tail _ (List.Mem.tail _ (List.Mem.tail _ hz))))
  have Bq2 := Lib.hid (STEP.out _ _ _ _ Gq1.out.rep k Bq1.out)
  clear o g k f ANq
  obtain ⟨s1, s2, s3, s4, s5, s6, s7, s8, s9⟩ := RuS.of Bq2.out
  have PWs3 : Hid (Calls Tryz.prog 102 #[ptr p, .int .i64 3, .int .i64 x.sl, .int .i64 x.sh] yq2 _) := Lib.hid (PWithin_ok 3 (by omega) x.sl x.sh Gq2.out.rep Gq2.out.qk Gq2.out.gl Gq2.out.off (by have := HC.out; omega))
  go_wp2_with fail
  refine PWs3.out.mono ?_
  intro e ys31 o
  obtain ⟨rs31, Ms31, Ls31, rfl, _, g, k, f, _⟩ := Gq2.out.stepK o
  have Gs31 := Lib.hid g
  have Bs31 := Lib.hid (STEP.out _ _ _ _ Gq2.out.rep k Bq2.out)
  clear o g k f PWs3 s1 s2 s3 s4 s5 s6 s7 s8 s9
  have ANs3 := Lib.hid (AndQ Gs31.out.rep Gs31.out.qk (f := rq2) (g := rs31) (F := x.cu) (List.Mem.tail _ (List.Mem.head _)) (List.Mem.head _) (s := 30) ((x.c1_st).mono (show 12 ≤ 30 by decide)) (by have := HC.out; omega))
  go_wp2_with fail
  refine ANs3.out.mono ?_
  intro e ys32 o
  obtain ⟨rs32, Ms32, Ls32, rfl, _, g, k, f, _⟩ := Gs31.out.stepK o
  have Gs32 := Lib.hid ((g.cong (G := x.c1) (fun a => rfl)).sub (B' := (rs32, x.c1) :: B) (fun z hz => by
   rcases List.mem_cons.1 hz with rfl | hz
   ·exact List.Mem.head _
   ·exact List.Mem.tail _ (List.Mem.tail _ (List.Mem.tail _ hz))))
  have Bs32 := Lib.hid (STEP.out _ _ _ _ Gs31.out.rep k Bs31.out)
  clear o g k f ANs3
  obtain ⟨s1, s2, s3, s4, s5, s6, s7, s8, s9⟩ := RuS.of Bs32.out
  have PWs4 : Hid (Calls Tryz.prog 102 #[ptr p, .int .i64 4, .int .i64 x.dl, .int .i64 x.dh] ys32 _) := Lib.hid (PWithin_ok 4 (by omega) x.dl x.dh Gs32.out.rep Gs32.out.qk Gs32.out.gl Gs32.out.off (by have := HC.out; omega))
  go_wp2_with fail
  refine PWs4.out.mono ?_
  intro e ys41 o
  obtain ⟨rs41, Ms41, Ls41, rfl, _, g, k, f, _⟩ := Gs32.out.stepK o
  have Gs41 := Lib.hid g
  have Bs41 := Lib.hid (STEP.out _ _ _ _ Gs32.out.rep k Bs32.out)
  clear o g k f PWs4 s1 s2 s3 s4 s5 s6 s7 s8 s9
  have ANs4 := Lib.hid (AndQ Gs41.out.rep Gs41.out.qk (f := rs32) (g := rs41) (F := x.c1) (List.Mem.tail _ (List.Mem.head _)) (List.Mem.head _) (s := 30) ((x.F_st).mono (show 22 ≤ 30 by decide)) (by have := HC.out; omega))
  go_wp2_with fail
  refine ANs4.out.mono ?_
  intro e ys42 o
  obtain ⟨rs42, Ms42, Ls42, rfl, _, g, k, f, _⟩ := Gs41.out.stepK o
  have Gs42 := Lib.hid ((g.cong (G := x.F) (fun a => rfl)).sub (B' := (rs42, x.F) :: B) (fun z hz => by
   rcases List.mem_cons.1 hz with rfl | hz
   ·exact List.Mem.head _
   ·exact List.Mem.tail _ (List.Mem.tail _ (List.Mem.tail _ hz))))
  have Bs42 := Lib.hid (STEP.out _ _ _ _ Gs41.out.rep k Bs41.out)
  clear o g k f ANs4
  have RET := Lib.hid (Gs42.out.ret (B0 := B) (List.Mem.head _) (fun z hz => List.Mem.tail _ hz) (show _ ≤ c + 100000000 by omega))
  go_wp2_with fail
  go_ret
  exact RET.out

end Go.Proofs.YtdgnbbmgcgfibaaGreatDoor
