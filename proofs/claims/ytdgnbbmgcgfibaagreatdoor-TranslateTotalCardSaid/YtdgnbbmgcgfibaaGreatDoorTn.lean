/-
 Plain: which Refs are sets of current packets.
-/
import Derived.Test.YtdgnbbmgcgfibaaGreatDoorTu
import Derived.Test.YtdgnbbmgcgfibaaGreatDoorHpm
import Derived.Test.YtdgnbbmgcgfibaaGreatDoorTq
namespace Go.Proofs.YtdgnbbmgcgfibaaGreatDoor
open Go.RowKit

def AcI (nm : Nat → ByteArray) (n : Nat) (s : ByteArray) (i : Int) : Prop := (∃ k : Nat, i = (k : Int) ∧ k < n ∧ (nm k).toList = s.toList ∧ ∀ j, j < k → (nm j).toList ≠ s.toList) ∨ (i = -1 ∧ ∀ j, j < n → (nm j).toList ≠ s.toList)
def AcN (w : World) (ao : Option Addr) (n : Nat) (nm : Nat → ByteArray) : Prop := n = 0 ∨ ∃ g o, ao = some ⟨g, o, none⟩ ∧ g < w.heap.size ∧ ∀ j, j < n → w.cell? ⟨g, o + j * 2, none⟩ = some (.string (nm j)) ∧ ∃ (b : Option Addr) (m c : Nat), w.cell? ⟨g, o + j * 2 + 1, none⟩ = some (.slice b m c)
theorem AcN.no {w w' : World} {ao : Option Addr} {n : Nat} {nm : Nat → ByteArray} (h : AcN w ao n nm) (k : Kp No w w') : AcN w' ao n nm := by
 rcases h with h | ⟨g, o, e, hg, hc⟩
 ·exact .inl h
 ·refine .inr ⟨g, o, e, Nat.lt_of_lt_of_le hg k.size, fun j hj => ?_⟩
  obtain ⟨h1, b, m, c, h2⟩ := hc j hj
  refine ⟨?_, b, m, c, ?_⟩
  ·rw [k.cell hg (fun h => h)]; exact h1
  ·rw [k.cell hg (fun h => h)]; exact h2

set_option maxHeartbeats 1000000 in
theorem ACL1_ok (a0 : ByteArray) (a1 : Option Addr) (a2 a3 : Nat) (s : ByteArray) (b : Nat) (w : World) (hc : w.cell? ⟨b, 0, none⟩ = some (.string s)) (hb : b < w.heap.size) : Calls Tryz.prog 100 #[.agg #[.string a0, .slice a1 a2 a3], .pointer (some ⟨b, 0, none⟩)] w fun e w' => e = .returned (.bool (a0.toList == s.toList)) ∧ Kp No w w' := by
 have hne : b ≠ w.heap.size := by omega
 go_enter Tryz.func100, Tryz.ntmps100
 go_wp2
 all_goals (go_ret; exact ⟨rfl, Kp.alloc _⟩)
def AclI (w : World) (n : Nat) (nm : Nat → ByteArray) (s : ByteArray) (gk : Nat) (s8 : Value) (x : World) : Prop := ∃ k, k + gk = n ∧ s8 = .int .i64 (k : Int) ∧ Kp No w x ∧ ∀ j, j < k → (nm j).toList ≠ s.toList
set_option maxHeartbeats 1000000 in
theorem ACLx_ok {w : World} {ao : Option Addr} {len cap : Nat} {nm : Nat → ByteArray} (h : AcN w ao len nm) (hl : len ≤ 9223372036854775807) (s : ByteArray) (b : Nat) (hc : w.cell? ⟨b, 0, none⟩ = some (.string s)) (hb : b < w.heap.size) :
  Calls Tryz.prog 99 #[.slice ao len cap, .func (.func 100) #[] #[.pointer (some ⟨b, 0, none⟩)]] w fun e w' => ∃ i : Int, e = .returned (.int .i64 i) ∧ Kp No w w' ∧ AcI nm len s i := by
 have H := Lib.hid h
 have HC := Lib.hid (And.intro hc hb)
 clear h hc hb
 go_enter Tryz.func99, Tryz.ntmps99
 go_wp2
 go_loopg [8] len (fun gk s8 x => AclI w len nm s gk s8 x)
 case atStart => exact ⟨0, by omega, rfl, Kp.refl _ _, fun j hj => absurd hj (by omega)⟩
 case round =>
  obtain ⟨k, hk, rfl, kp, hno⟩ := hrel
  have NO := Lib.hid hno
  clear hno
  by_cases hlt : k < len
  ·have hlti : (k : Int) < len := by omega
   rcases H.out.no kp with h0 | ⟨g, o, rfl, hg, hcl⟩
   ·exact absurd h0 (by omega)
   obtain ⟨f0, a1, a2, a3, f1⟩ := hcl k hlt
   have CL := Lib.hid (ACL1_ok (nm k) a1 a2 a3 s b wr (by rw [kp.cell HC.out.2 (fun h => h)]; exact HC.out.1) (Nat.lt_of_lt_of_le HC.out.2 kp.size))
   have KP := Lib.hid kp
   have HK := Lib.hid hk
   clear hk kp hg hcl
   go_wp2_with fail
   refine CL.out.mono ?_
   rintro e y ⟨rfl, ky⟩
   have KY := Lib.hid (KP.out.trans_no ky)
   clear f0 f1 ky CL
   rcases hq : ((nm k).toList == s.toList) with _ | _
   ·have hne : (nm k).toList ≠ s.toList := by simpa using hq
    have HNE := Lib.hid hne
    clear hne hq
    go_wp2
    go_roundg (len - (k + 1))
    case measure => have := HK.out; omega
    case rel =>
     refine ⟨k + 1, by omega, by go_num, KY.out, fun j hj => ?_⟩
     by_cases e : j = k
     ·rw [e]; exact HNE.out
     ·exact NO.out j (by omega)
   ·have he : (nm k).toList = s.toList := by simpa using hq
    have RET : Hid (∃ i : Int, Ending.returned (.int .i64 (k : Int)) = .returned (.int .i64 i) ∧ Kp No w y ∧ AcI nm len s i) := Lib.hid ⟨_, rfl, KY.out, .inl ⟨k, rfl, hlt, he, NO.out⟩⟩
    clear he hq
    go_wp2
    go_ret
    exact RET.out
  ·obtain rfl : k = len := by omega
   have RET : Hid (∃ i : Int, Ending.returned (.int .i64 (-1)) = .returned (.int .i64 i) ∧ Kp No w wr ∧ AcI nm k s i) := Lib.hid ⟨_, rfl, kp, .inr ⟨rfl, NO.out⟩⟩
   clear hk kp
   go_wp2
   go_ret
   exact RET.out
set_option maxRecDepth 100000 in
set_option maxHeartbeats 2000000 in
theorem ACL_ok (cs : Array Value) (s : ByteArray) {ao : Option Addr} {len cap : Nat} {nm : Nat → ByteArray} (w : World) (h5 : cs[5]? = some (.slice ao len cap)) (h : AcN w ao len nm) (hl : len ≤ 9223372036854775807) : Calls Tryz.prog 65 #[.agg cs, .string s] w fun e w' => ∃ (i : Int), e = .returned (.int .i64 i) ∧ Kp No w w' ∧ AcI nm len s i := by
 have h0 := heap_alloc_new w (.cells cs 41)
 have BX : Hid (∀ y, Kp No (w.alloc (.cells cs 41)) y → y.heap[w.heap.size]? = some (.cells cs 41 (0, 0))) := Lib.hid (fun y k => (k.block _ (heap_lt h0) (fun h => h)).trans h0)
 have KA := Lib.hid (Kp.alloc (w := w) (.cells cs 41))
 have HN := Lib.hid h
 clear h0 h
 go_enter Tryz.func65, Tryz.ntmps65
 go_upto_region 1 with fail
 have e1 := heap_alloc_new (w.alloc (.cells cs 41)) (.cells #[.string s] 9)
 have K1 := Lib.hid (Kp.alloc (w := w.alloc (.cells cs 41)) (.cells #[.string s] 9))
 have hsz : (w.alloc (.cells cs 41)).heap.size = w.heap.size + 1 := by simp
 rw [hsz] at e1
 generalize w.alloc (.cells cs 41) = X at *
 generalize X.alloc (.cells #[.string s] 9) = Y at *
 have f2 : Y.cell? ⟨w.heap.size, 5, none⟩ = some (.slice ao len cap) := by rw [cell_of_row _ _ _ _ _ _ (BX.out Y K1.out)]; exact h5
 have IX := Lib.hid (ACLx_ok (w := Y) (cap := cap) (HN.out.no (KA.out.trans_no K1.out)) hl s (w.heap.size + 1) (by simp [World.cell?, e1]) (heap_lt e1))
 have KY := Lib.hid (KA.out.trans_no K1.out)
 clear e1 hsz BX h5
 go_wp2_with fail
 refine IX.out.mono ?_
 rintro e z ⟨i, rfl, kz, h1⟩
 have RET : Hid (∃ (i' : Int), Ending.returned (.int .i64 i) = .returned (.int .i64 i') ∧ Kp No w z ∧ AcI nm len s i') := Lib.hid ⟨i, rfl, KY.out.trans_no kz, h1⟩
 go_wp2
 go_ret
 exact RET.out

end Go.Proofs.YtdgnbbmgcgfibaaGreatDoor

namespace Go.Proofs.YtdgnbbmgcgfibaaGreatDoor
open Go.RowKit Go.Shelf

attribute [local go_sem] Oper.semAt_some

structure PK (W0 W : World) (p : Nat) (L1 : Lay) (hs nb fb Bs b : Nat) (r : Int) (tv : Array Value) (cs : Array Value) (y : World) (Ly : Lay) : Prop where
 q : y.heap[hs + 1]? = some (.cells cs 41 (0, 0))
 m : y.heap[hs]? = some (.cells #[ptr p] 52 (0, 0))
 t : y.heap[nb]? = some (.cells tv 128 (0, 0))
 f : y.heap[fb]? = some (.cells #[.int .i64 r] 54 (0, 0))
 s : y.heap[Bs]? = W.heap[Bs]?
 u : y.heap[b]? = W.heap[b]?
 fr : Fresh (L1.at p) (Ly.at p) W0
 sz : W.heap.size ≤ y.heap.size
 kr : KeepsRec W y
section
variable {W0 W y y' : World} {p hs nb fb Bs b : Nat} {L1 Ly L' : Lay} {r : Int} {tv cs : Array Value}
theorem PK.no (h : PK W0 W p L1 hs nb fb Bs b r tv cs y Ly) (C : DC W0 W p L1 hs fb Bs b) (k : Kp No y y') : PK W0 W p L1 hs nb fb Bs b r tv cs y' Ly where
 q := (k.block _ (heap_lt h.q) (fun h => h)).trans h.q
 m := (k.block _ (heap_lt h.m) (fun h => h)).trans h.m
 t := (k.block _ (heap_lt h.t) (fun h => h)).trans h.t
 f := (k.block _ (heap_lt h.f) (fun h => h)).trans h.f
 s := (k.block _ (Nat.lt_of_lt_of_le C.s h.sz) (fun h => h)).trans h.s
 u := (k.block _ (Nat.lt_of_lt_of_le C.u h.sz) (fun h => h)).trans h.u
 fr := h.fr
 sz := Nat.le_trans h.sz k.size
 kr := h.kr.trans (.no k)
theorem PK.step {M : Mgr} (h : PK W0 W p L1 hs nb fb Bs b r tv cs y Ly) (C : DC W0 W p L1 hs fb Bs b) (R : Rep y p M Ly) (k : Kp (Ly.at p) y y') (f : Fresh (Ly.at p) (L'.at p) y) (kr : KeepsRec y y') : PK W0 W p L1 hs nb fb Bs b r tv cs y' L' :=
 have n := C.l Ly h.fr
 {q := (k.block _ (heap_lt h.q) n.2.2.2.2).trans h.q
  m := (k.block _ (heap_lt h.m) n.1).trans h.m
  t := (k.block _ (heap_lt h.t) (ru_ty R h.t)).trans h.t
  f := (k.block _ (heap_lt h.f) n.2.1).trans h.f
  s := (k.block _ (Nat.lt_of_lt_of_le C.s h.sz) n.2.2.1).trans h.s
  u := (k.block _ (Nat.lt_of_lt_of_le C.u h.sz) n.2.2.2.1).trans h.u
  fr := h.fr.then f (Nat.le_trans C.z h.sz)
  sz := Nat.le_trans h.sz k.size
  kr := h.kr.trans kr }
def PS (p hs nb : Nat) (x : Ru) (y : World) : Prop := y.cell? ⟨hs, 0, none⟩ = some (ptr p) ∧ y.cell? ⟨nb, 0, none⟩ = some (.bool x.pm) ∧ y.cell? ⟨nb, 1, none⟩ = some (.int .i64 x.pr) ∧ y.cell? ⟨nb, 2, none⟩ = some (.int .u32 (x.sa : Int)) ∧ y.cell? ⟨nb, 3, none⟩ = some (.int .u32 (x.sm : Int)) ∧ y.cell? ⟨nb, 4, none⟩ = some (.int .u32 (x.da : Int)) ∧ y.cell? ⟨nb, 5, none⟩ = some (.int .u32 (x.dm : Int)) ∧ y.cell? ⟨nb, 6, none⟩ = some (.int .i64 x.sl) ∧ y.cell? ⟨nb, 7, none⟩ = some (.int .i64 x.sh) ∧ y.cell? ⟨nb, 8, none⟩ = some (.int .i64 x.dl) ∧ y.cell? ⟨nb, 9, none⟩ = some (.int .i64 x.dh)
theorem PK.S {x : Ru} (h : PK W0 W p L1 hs nb fb Bs b r x.v cs y Ly) : PS p hs nb x y := by
 refine ⟨by rw [cell_of_row _ _ _ _ _ _ h.m]; rfl, ?_, ?_, ?_, ?_, ?_, ?_, ?_, ?_, ?_, ?_⟩ <;> (rw [cell_of_row _ _ _ _ _ _ h.t]; rfl)
theorem PK.S2 {x : Ru} (h : PK W0 W p L1 hs nb fb Bs b r x.v cs y Ly) {v : Value} : PS p hs nb x (y.setCell ⟨fb, 0, none⟩ v) := by
 have n1 : hs ≠ fb := fun e => by have := h.m; rw [e, h.f] at this; injection this with this; injection this with _ this; exact absurd this (by decide)
 have n2 : nb ≠ fb := fun e => by have := h.t; rw [e, h.f] at this; injection this with this; injection this with _ this; exact absurd this (by decide)
 have k1 : ∀ z, (y.setCell ⟨fb, 0, none⟩ v).cell? ⟨hs, z, none⟩ = y.cell? ⟨hs, z, none⟩ := fun z => World.cell?_of_block (Below.heap_setCell _ _ _ _ n1)
 have k2 : ∀ z, (y.setCell ⟨fb, 0, none⟩ v).cell? ⟨nb, z, none⟩ = y.cell? ⟨nb, z, none⟩ := fun z => World.cell?_of_block (Below.heap_setCell _ _ _ _ n2)
 have := h.S
 unfold PS at this ⊢
 simp only [k1, k2]
 exact this
theorem PK.fin {w : World} {c : Nat} {M : Mgr} {L : Lay} {B : List (Int × Bfn)} (h : PK W0 W p L1 hs nb fb Bs b r tv cs y Ly) (C : DC W0 W p L1 hs fb Bs b) (G : Hf w p L 220 c y M Ly B) (hw : w.heap.size ≤ fb) (hg : 0 < w.heap.size) (n1 : Bs ≠ fb) (n2 : b ≠ fb) (v : Int) :
  KeepsRec W (y.setCell ⟨fb, 0, none⟩ (.int .i64 v)) ∧ BkR Bs b W (y.setCell ⟨fb, 0, none⟩ (.int .i64 v)) ∧ Hf w p L 220 c (y.setCell ⟨fb, 0, none⟩ (.int .i64 v)) M Ly B ∧ (Fresh (L1.at p) (Ly.at p) W0 ∧ W0.heap.size ≤ (y.setCell ⟨fb, 0, none⟩ (.int .i64 v)).heap.size) ∧
  (y.setCell ⟨fb, 0, none⟩ (.int .i64 v)).heap[hs]? = some (.cells #[ptr p] 52 (0, 0)) ∧ (y.setCell ⟨fb, 0, none⟩ (.int .i64 v)).heap[hs + 1]? = some (.cells cs 41 (0, 0)) ∧ (y.setCell ⟨fb, 0, none⟩ (.int .i64 v)).heap[fb]? = some (.cells #[.int .i64 v] 54 (0, 0)) := by
 have n3 : hs ≠ fb := fun e => by have := h.m; rw [e, h.f] at this; injection this with this; injection this with _ this; exact absurd this (by decide)
 have n4 : hs + 1 ≠ fb := fun e => by have := h.q; rw [e, h.f] at this; injection this with this; injection this with _ this; exact absurd this (by decide)
 refine ⟨h.kr.trans (.of_kp (Kp.setCell (w := y) ⟨fb, 0, none⟩ (.int .i64 v)) (fun k o hk ho e => ?_)), ⟨?_, ?_⟩, ?_, ⟨h.fr, by simp; exact Nat.le_trans C.z h.sz⟩, ?_, ?_, heap_setCell_same y _ 0 _ _ _ h.f⟩
 ·rw [show k = fb from e, h.f] at hk
  cases hk
  cases ho
 ·rw [Below.heap_setCell _ _ _ _ n1]; exact h.s
 ·rw [Below.heap_setCell _ _ _ _ n2]; exact h.u
 ·exact G.kp (Kp.setCell (w := y) ⟨fb, 0, none⟩ (.int .i64 v)) (fun x e => by rw [show x = fb from e]; exact (C.l Ly h.fr).2.1) (fun x e => by rw [show x = fb from e]; exact hw) (fun e => by
   rw [show 0 = fb from e] at hg
   omega)
 ·rw [Below.heap_setCell _ _ _ _ n3]; exact h.m
 ·rw [Below.heap_setCell _ _ _ _ n4]; exact h.q
theorem PK.c (h : PK W0 W p L1 hs nb fb Bs b r tv cs y Ly) : y.cell? ⟨fb, 0, none⟩ = some (.int .i64 r) := by rw [cell_of_row _ _ _ _ _ _ h.f]; rfl
theorem PK.z (h : PK W0 W p L1 hs nb fb Bs b r tv cs y Ly) : y.frozen? ⟨fb, 0, none⟩ = false := by simp [World.frozen?, h.f]
end

def RuAt (w : World) (g o : Nat) (x : Ru) : Prop := w.cell? ⟨g, o, none⟩ = some (.bool x.pm) ∧ w.cell? ⟨g, o + 1, none⟩ = some (.int .i64 x.pr) ∧ w.cell? ⟨g, o + 2, none⟩ = some (.int .u32 (x.sa : Int)) ∧ w.cell? ⟨g, o + 3, none⟩ = some (.int .u32 (x.sm : Int)) ∧ w.cell? ⟨g, o + 4, none⟩ = some (.int .u32 (x.da : Int)) ∧ w.cell? ⟨g, o + 5, none⟩ = some (.int .u32 (x.dm : Int)) ∧ w.cell? ⟨g, o + 6, none⟩ = some (.int .i64 x.sl) ∧ w.cell? ⟨g, o + 7, none⟩ = some (.int .i64 x.sh) ∧ w.cell? ⟨g, o + 8, none⟩ = some (.int .i64 x.dl) ∧ w.cell? ⟨g, o + 9, none⟩ = some (.int .i64 x.dh)
def AcAt (w : World) (p : Nat) (L : Lay) (cs : Array Value) (acs : List (ByteArray × List Ru)) : Prop := ∃ (ao : Option Addr) (cp : Nat), cs[5]? = some (.slice ao acs.length cp) ∧ acs.length ≤ cp ∧ cp ≤ 9223372036854775807 ∧ (acs.length = 0 ∨ ∃ g o, ao = some ⟨g, o, none⟩ ∧ g < w.heap.size ∧ ¬ L.at p g ∧ ∀ j x, acs[j]? = some x → w.cell? ⟨g, o + j * 2, none⟩ = some (.string x.1) ∧ ∃ (bo : Option Addr) (bc : Nat), w.cell? ⟨g, o + j * 2 + 1, none⟩ = some (.slice bo x.2.length bc) ∧ x.2.length ≤ bc ∧ bc ≤ 9223372036854775807 ∧ (x.2.length = 0 ∨ ∃ b ob, bo = some ⟨b, ob, none⟩ ∧ b < w.heap.size ∧ ¬ L.at p b ∧ ∀ i y, x.2[i]? = some y → RuAt w b (ob + i * 10) y))
theorem RuAt.of {w w' : World} {g o : Nat} {x : Ru} (h : RuAt w g o x) (k : ∀ z, w'.cell? ⟨g, z, none⟩ = w.cell? ⟨g, z, none⟩) : RuAt w' g o x := by
 unfold RuAt at h ⊢
 simp only [k]
 exact h
theorem AcAt.of {w w' : World} {p : Nat} {L L' : Lay} {cs : Array Value} {acs : List (ByteArray × List Ru)} (h : AcAt w p L cs acs) (k : Kp (L.at p) w w') (f : Fresh (L.at p) (L'.at p) w) : AcAt w' p L' cs acs := by
 obtain ⟨ao, cp, h5, h1, h2, h3⟩ := h
 have fn : ∀ g, g < w.heap.size → ¬ L.at p g → ¬ L'.at p g := fun g hg hn h => by
  rcases f _ h with h | h
  ·exact hn h
  ·omega
 refine ⟨ao, cp, h5, h1, h2, ?_⟩
 rcases h3 with h0 | ⟨g, o, e, hg, hgl, hx⟩
 ·exact .inl h0
 refine .inr ⟨g, o, e, Nat.lt_of_lt_of_le hg k.size, fn g hg hgl, fun j x hj => ?_⟩
 obtain ⟨a1, bo, bc, a2, a3, a4, a5⟩ := hx j x hj
 refine ⟨by rw [k.cell (a := ⟨g, o + j * 2, none⟩) hg hgl]; exact a1, bo, bc, by rw [k.cell (a := ⟨g, o + j * 2 + 1, none⟩) hg hgl]; exact a2, a3, a4, ?_⟩
 rcases a5 with h0 | ⟨b, ob, e2, hb, hbl, hy⟩
 ·exact .inl h0
 exact .inr ⟨b, ob, e2, Nat.lt_of_lt_of_le hb k.size, fn b hb hbl, fun i y hi => (hy i y hi).of (fun z => k.cell (a := ⟨b, z, none⟩) hb hbl)⟩
def acG : List (ByteArray × List Ru) → ByteArray → List Ru
 | [], _ => []
 | x :: l, s => if x.1.toList = s.toList then x.2 else acG l s
theorem acG_no : ∀ (l : List (ByteArray × List Ru)) (s : ByteArray), (∀ x, x ∈ l → x.1.toList ≠ s.toList) → acG l s = []
 | [], _, _ => rfl
 | x :: l, s, h => by
  unfold acG
  rw [if_neg (h x (List.mem_cons_self ..))]
  exact acG_no l s (fun y hy => h y (List.mem_cons_of_mem _ hy))
theorem acG_hit : ∀ (l : List (ByteArray × List Ru)) (s : ByteArray) (k : Nat) (hk : k < l.length), l[k].1.toList = s.toList → (∀ j (hj : j < k), (l[j]'(by omega)).1.toList ≠ s.toList) → acG l s = l[k].2
 | [], _, _, hk, _, _ => absurd hk (by simp)
 | x :: l, s, 0, _, h, _ => by unfold acG; rw [if_pos (show x.1.toList = s.toList from h)]; rfl
 | x :: l, s, k + 1, hk, h, hn => by
  unfold acG
  rw [if_neg (show x.1.toList ≠ s.toList from hn 0 (by omega))]
  show acG l s = (l[k]'(by simpa using hk)).2
  exact acG_hit l s k (by simpa using hk) h (fun j hj => hn (j + 1) (by omega))
def aclS (acs : List (ByteArray × List Ru)) (s : ByteArray) : Bfn := if s.toList.isEmpty = true then fun _ => true else aclF (acG acs s)
def Ru.z : Ru := ⟨false, 0, 0, 0, 0, 0, 0, 0, 0, 0⟩
def PaI (w W0 : World) (p c hs fb : Nat) (cs : Array Value) (L L1 : Lay) (B : List (Int × Bfn)) (rs : List Ru) (pre : List Nat) (W : World) : Prop :=
 ∃ r M' L', Hf w p L 220 (c + pre.length * 110000000) W M' L' ((r, aclF (rs.drop (rs.length - pre.length))) :: B) ∧ (Fresh (L1.at p) (L'.at p) W0 ∧ W0.heap.size ≤ W.heap.size) ∧ W.heap[hs]? = some (.cells #[ptr p] 52 (0, 0)) ∧ W.heap[hs + 1]? = some (.cells cs 41 (0, 0)) ∧ W.heap[fb]? = some (.cells #[.int .i64 r] 54 (0, 0))
theorem aclF_288 {l : List Ru} (h : l.length ≤ 4) : PSt 220 (aclF l) 288 := (aclF_st l).mono (by
 rcases (show l.length = 0 ∨ l.length = 1 ∨ l.length = 2 ∨ l.length = 3 ∨ l.length = 4 by omega) with e | e | e | e | e <;> rw [e] <;> decide)
set_option maxRecDepth 1000000 in
set_option maxHeartbeats 16000000 in
theorem PACL_ok {p c : Nat} {M : Mgr} {L : Lay} {B : List (Int × Bfn)} (cs : Array Value) (hcs : cs.size = 25) (acs : List (ByteArray × List Ru)) (s : ByteArray) (hle : ∀ x, x ∈ acs → x.2.length ≤ 4) (hok : ∀ x, x ∈ acs → ∀ y, y ∈ x.2 → y.ok) {w : World} (R : Rep w p M L) (q : Qk 220 c M B) (g : Gl w) (ho : ¬ L.at p 0) (hn : AcAt w p L cs acs) (hc : c ≤ 300000000000) :
  Calls Tryz.prog 32 #[ptr p, .agg cs, .string s] w (OpQ p 220 (c + 500000000) L w (aclS acs s) B) := by
 have H := Lib.hid (Hf.start R q g ho)
 have RLT := Lib.hid R.lt
 have GLT := Lib.hid g.lt
 have HC := Lib.hid hc
 obtain ⟨ao, cp, hcs5, hcp1, hcp2, hcell⟩ := hn
 have HC5 := Lib.hid hcs5
 have HCL := Lib.hid hcell
 have AN : Hid (AcN w ao acs.length (fun j => (acs.getD j (⟨#[]⟩, [])).1)) := Lib.hid (by
  rcases hcell with h0 | ⟨g, o, e, hg, _, hx⟩
  ·exact .inl h0
  ·refine .inr ⟨g, o, e, hg, fun j hj => ?_⟩
   obtain ⟨h1, bo, bc, h2, _⟩ := hx j acs[j] (List.getElem?_eq_getElem hj)
   refine ⟨?_, bo, _, bc, h2⟩
   simp only [List.getD_eq_getElem?_getD, List.getElem?_eq_getElem hj, Option.getD_some]
   exact h1)
 clear R q g hcs5 hcell
 refine callsIn_wide.1 (callsIn_of_wp_marks Tryz.func32 rfl trivial ?_ rfl (n := 3))
 refine wpIn_wide.2 ?_
 simp only [Tryz.ntmps32, List.size_toArray, List.length_cons, List.length_nil, Nat.reduceAdd, Nat.reduceSub, Array.replicate_succ, Array.replicate_zero, List.push_toArray, List.append_toArray, List.nil_append, List.cons_append]
 go_upto_region 1 with fail
 have kX : Kp No w ((w.alloc (.cells #[ptr p] 52)).alloc (.cells cs 41)) := (Kp.alloc _).trans_no (Kp.alloc _)
 have x2 : ((w.alloc (.cells #[ptr p] 52)).alloc (.cells cs 41)).heap[w.heap.size]? = some (.cells #[ptr p] 52 (0, 0)) := by
  rw [Below.heap_alloc _ _ _ (by simp)]; exact heap_alloc_new _ _
 have x3 : ((w.alloc (.cells #[ptr p] 52)).alloc (.cells cs 41)).heap[w.heap.size + 1]? = some (.cells cs 41 (0, 0)) := by
  have := heap_alloc_new (w.alloc (.cells #[ptr p] 52)) (.cells cs 41)
  simpa using this
 have xz : ((w.alloc (.cells #[ptr p] 52)).alloc (.cells cs 41)).heap.size = w.heap.size + 2 := by simp
 generalize ((w.alloc (.cells #[ptr p] 52)).alloc (.cells cs 41)) = X at *
 have H1 := Lib.hid (H.out.no kX)
 have KX := Lib.hid kX
 have XZ := Lib.hid xz
 have X2 := Lib.hid x2
 have X3 := Lib.hid x3
 clear x2 x3 kX xz
 rcases str_cases s with ⟨es, es'⟩ | ⟨es, es'⟩
 ·have RET : Hid (OpQ p 220 (c + 500000000) L w (aclS acs s) B (.returned (.int .i64 1)) X) := Lib.hid (by
   refine ((H1.out.consts.sub (B' := (1, fun _ => true) :: B) (fun x hx => ?_)).cong (fun a => ?_)).ret (.head _) (fun x hx => .tail _ hx) (Nat.le_add_right _ _)
   ·rcases List.mem_cons.1 hx with rfl | hx
    ·exact .tail _ (.head _)
    ·exact .tail _ (.tail _ hx)
   ·unfold aclS
    rw [if_pos es'])
  go_wp2
  refine ⟨_, results_tmp rfl _ _ _, ?_⟩
  exact RET.out
 have ES' := Lib.hid es'
 clear es
 go_upto_region 3 with fail
 clear es'
 have AC := Lib.hid (ACL_ok cs s (cap := cp) X HC5.out (AN.out.no KX.out) (by omega))
 have HCS := Lib.hid hcs
 go_wp2_with (refine wpList_load_rt rfl _ rfl (w.heap.size + 1) rfl cs HCS.out X3.out ?_)
 refine AC.out.mono ?_
 rintro e w1 ⟨ki, rfl, k1, hki⟩
 have H2 := Lib.hid (H1.out.no k1)
 have K1 := Lib.hid k1
 have y2 : w1.heap[w.heap.size]? = some (.cells #[ptr p] 52 (0, 0)) := (k1.block _ (heap_lt X2.out) (fun h => h)).trans X2.out
 have y3 : w1.heap[w.heap.size + 1]? = some (.cells cs 41 (0, 0)) := (k1.block _ (heap_lt X3.out) (fun h => h)).trans X3.out
 have Y2 := Lib.hid y2
 have Y3 := Lib.hid y3
 have s1 := k1.size
 clear y2 y3 k1
 rcases hki with ⟨k, rfl, hk, hnm, hno⟩ | ⟨e1, hno⟩
 case' inr =>
  have RET : Hid (OpQ p 220 (c + 500000000) L w (aclS acs s) B (.returned (.int .i64 0)) w1) := Lib.hid (by
   refine ((H2.out.consts.sub (B' := (0, fun _ => false) :: B) (fun x hx => ?_)).cong (fun a => ?_)).ret (.head _) (fun x hx => .tail _ hx) (Nat.le_add_right _ _)
   ·rcases List.mem_cons.1 hx with rfl | hx
    ·exact .head _
    ·exact .tail _ (.tail _ hx)
   ·unfold aclS
    rw [if_neg (by rw [ES'.out]; decide), acG_no acs s (fun x hx => ?_)]
    ·rfl
    ·obtain ⟨j, hj, rfl⟩ := List.getElem_of_mem hx
     have := hno j hj
     simp only [List.getD_eq_getElem?_getD, List.getElem?_eq_getElem hj, Option.getD_some] at this
     exact this)
  clear hno
  have hm1 : ki < 0 := by omega
  clear e1
  go_wp2
  refine ⟨_, results_tmp rfl _ _ _, ?_⟩
  exact RET.out
 rcases HCL.out with h0 | ⟨ag, og, rfl, hag, _, hcl⟩
 ·exact absurd h0 (by omega)
 obtain ⟨f0, bo, bc, f1, hbc1, hbc2, hru⟩ := hcl k acs[k] (List.getElem?_eq_getElem hk)
 have hnm' : acs[k].1.toList = s.toList := by
  simp only [List.getD_eq_getElem?_getD, List.getElem?_eq_getElem hk, Option.getD_some] at hnm
  exact hnm
 have FE : Hid (aclS acs s = aclF acs[k].2) := Lib.hid (by
  unfold aclS
  rw [if_neg (by rw [ES'.out]; decide), acG_hit acs s k hk hnm' (fun j hj => by
   have := hno j hj
   simp only [List.getD_eq_getElem?_getD, List.getElem?_eq_getElem (show j < acs.length by omega), Option.getD_some] at this
   exact this)])
 have hrs := hle acs[k] (List.getElem_mem hk)
 have hrk : ∀ y, y ∈ acs[k].2 → y.ok := hok acs[k] (List.getElem_mem hk)
 have g1 : w1.cell? ⟨ag, og + k * 2 + 1, none⟩ = some (.slice bo acs[k].2.length bc) := by
  rw [K1.out.cell (a := ⟨ag, og + k * 2 + 1, none⟩) (by show ag < X.heap.size; have := XZ.out; omega) (fun h => h), KX.out.cell (a := ⟨ag, og + k * 2 + 1, none⟩) hag (fun h => h)]
  exact f1
 generalize acs[k].2 = rs at *
 have hki : ¬ (k : Int) ≥ (acs.length : Int) := by omega
 have hk0 : ¬ (k : Int) < 0 := by omega
 have g2 : (w1.alloc (.cells #[.int .i64 0] 54)).cell? ⟨w.heap.size + 1, 5, none⟩ = some (.slice (some ⟨ag, og, none⟩) acs.length cp) := by
  rw [World.cell?_alloc_lt _ _ _ (heap_lt Y3.out), cell_of_row _ _ _ _ _ _ Y3.out]
  exact HC5.out
 have g0 : w1.cell? ⟨w.heap.size + 1, 5, none⟩ = some (.slice (some ⟨ag, og, none⟩) acs.length cp) := by
  rw [cell_of_row _ _ _ _ _ _ Y3.out]
  exact HC5.out
 have HRU := Lib.hid hru
 have HNX := Lib.hid (And.intro hnm' hno)
 clear hcl f0 f1 hnm hnm' hno hru
 have BK := Lib.hid (fun (z : World) => BackU_ok bo rs.length bc z)
 go_upto_region 7 with fail
 have g3 : (w1.alloc (.cells #[.int .i64 0] 54)).cell? ⟨ag, og + k * 2 + 1, none⟩ = some (.slice bo rs.length bc) := by
  rw [World.cell?_alloc_lt _ _ _ (by show ag < _; have := XZ.out; omega)]
  exact g1
 clear g0 g1
 go_wp2_with fail
 refine (BK.out _).mono ?_
 rintro e w2 ⟨rfl, rfl⟩
 clear g2 g3
 go_wp2_with fail
 have W0E : Hid (∃ W0, W0 = (w1.alloc (.cells #[.int .i64 0] 54)).alloc (.cells #[.slice bo rs.length bc] 74)) := Lib.hid ⟨_, rfl⟩
 have kW : Kp No w1 ((w1.alloc (.cells #[.int .i64 0] 54)).alloc (.cells #[.slice bo rs.length bc] 74)) := (Kp.alloc _).trans_no (Kp.alloc _)
 have v2 : ((w1.alloc (.cells #[.int .i64 0] 54)).alloc (.cells #[.slice bo rs.length bc] 74)).heap[w1.heap.size]? = some (.cells #[.int .i64 0] 54 (0, 0)) := by
  rw [Below.heap_alloc _ _ _ (by simp)]; exact heap_alloc_new _ _
 have v3 : ((w1.alloc (.cells #[.int .i64 0] 54)).alloc (.cells #[.slice bo rs.length bc] 74)).heap[w1.heap.size + 1]? = some (.cells #[.slice bo rs.length bc] 74 (0, 0)) := by
  have := heap_alloc_new (w1.alloc (.cells #[.int .i64 0] 54)) (.cells #[.slice bo rs.length bc] 74)
  simpa using this
 have vz : ((w1.alloc (.cells #[.int .i64 0] 54)).alloc (.cells #[.slice bo rs.length bc] 74)).heap.size = w1.heap.size + 2 := by simp
 generalize ((w1.alloc (.cells #[.int .i64 0] 54)).alloc (.cells #[.slice bo rs.length bc] 74)) = W0 at *
 have KW := Lib.hid kW
 have kw0 : w.heap.size + 2 ≤ w1.heap.size := by have := XZ.out; omega
 obtain ⟨b, ob, hao, ⟨hbf, hbw⟩, hbL, hcells⟩ : ∃ b ob, (bo = some ⟨b, ob, none⟩ ∨ rs.length = 0) ∧ (b < w1.heap.size ∧ b < W0.heap.size) ∧ (∀ L' : Lay, Fresh (L.at p) (L'.at p) W0 → ¬ L'.at p b) ∧ ∀ j t, rs[j]? = some t → RuAt W0 b (ob + j * 10) t := by
  rcases HRU.out with h0 | ⟨gn, on, e, hg, hnl, hc'⟩
  ·refine ⟨w.heap.size, 0, .inr h0, ⟨by omega, by omega⟩, fun L' f h => ?_, fun j t hj => ?_⟩
   ·rcases f _ h with h | h
    ·have := RLT.out _ h; omega
    ·omega
   ·have := (List.getElem?_eq_some_iff.1 hj).1
    omega
  ·refine ⟨gn, on, .inl e, ⟨by omega, by omega⟩, fun L' f h => ?_, fun j t hj => ?_⟩
   ·rcases f _ h with h | h
    ·exact hnl h
    ·omega
   ·have kk : ∀ z, W0.cell? ⟨gn, z, none⟩ = w.cell? ⟨gn, z, none⟩ := fun z => by
     rw [KW.out.cell (a := ⟨gn, z, none⟩) (by show gn < w1.heap.size; omega) (fun h => h), K1.out.cell (a := ⟨gn, z, none⟩) (by show gn < X.heap.size; have := XZ.out; omega) (fun h => h), KX.out.cell (a := ⟨gn, z, none⟩) hg (fun h => h)]
    have := hc' j t hj
    unfold RuAt at this ⊢
    simp only [kk]
    exact this
 have CT0 : Hid (∀ L' : Lay, Fresh (L.at p) (L'.at p) W0 → ¬ L'.at p w.heap.size ∧ ¬ L'.at p w1.heap.size ∧ ¬ L'.at p (w1.heap.size + 1) ∧ ¬ L'.at p b ∧ ¬ L'.at p (w.heap.size + 1)) := Lib.hid (fun L' f => by
  refine ⟨fun h => ?_, fun h => ?_, fun h => ?_, hbL L' f, fun h => ?_⟩ <;>
  ·rcases f _ h with h | h
   ·have := RLT.out _ h; omega
   ·omega)
 have HST := backU_hands 2 (by omega) (w1.heap.size + 1) b ob bc rs.length bo hao (by omega) (fun j => (rs.getD j Ru.z).pm) (fun j => (rs.getD j Ru.z).pr) (fun j => (rs.getD j Ru.z).sa) (fun j => (rs.getD j Ru.z).sm) (fun j => (rs.getD j Ru.z).da) (fun j => (rs.getD j Ru.z).dm) (fun j => (rs.getD j Ru.z).sl) (fun j => (rs.getD j Ru.z).sh) (fun j => (rs.getD j Ru.z).dl) (fun j => (rs.getD j Ru.z).dh) W0 (by omega) hbw (by rw [cell_of_row _ _ _ _ _ _ v3]; rfl) (fun j hj => by
  have := hcells j rs[j] (List.getElem?_eq_getElem hj)
  unfold RuAt at this
  simp only [List.getD_eq_getElem?_getD, List.getElem?_eq_getElem hj, Option.getD_some]
  exact this)
 have w02 : W0.heap[w.heap.size]? = some (.cells #[ptr p] 52 (0, 0)) := (KW.out.block _ (by omega) (fun h => h)).trans Y2.out
 have w03 : W0.heap[w.heap.size + 1]? = some (.cells cs 41 (0, 0)) := (KW.out.block _ (by omega) (fun h => h)).trans Y3.out
 refine (wpIn_wide (n := 3)).1 (range_calls rfl (by omega) (gf := 101) (lb := #[.pointer (some ⟨w1.heap.size + 1, 0, none⟩)]) rfl trivial (enters_of Tryz.func101 (by kernel_rfl) rfl)
  HST (fun _ => rfl) BkR.trans (BkR.put (by omega) hbw)
  (PaI w W0 p c w.heap.size w1.heap.size cs L L B rs)
  (fun pre W o ⟨r, M', L', h, fr, b1, b2, b3⟩ => ⟨r, M', L', h.no (Kp.alloc o), ⟨fr.1, by simp; omega⟩, by rw [Below.heap_alloc _ _ _ (heap_lt b1)]; exact b1, by rw [Below.heap_alloc _ _ _ (heap_lt b2)]; exact b2, by rw [Below.heap_alloc _ _ _ (heap_lt b3)]; exact b3⟩)
  (fun pre W k o o' ⟨r, M', L', h, fr, b1, b2, b3⟩ hk hl2 hr => ⟨r, M', L', h.put (by omega) hl2 hr o', ⟨fr.1, by simp; omega⟩, by rw [World.putObj_heap_other (by omega)]; exact b1, by rw [World.putObj_heap_other (by omega)]; exact b2, by rw [World.putObj_heap_other (by omega)]; exact b3⟩)
  ⟨0, M, L, by
   have e : rs.drop (rs.length - ([] : List Nat).length) = [] := by simp
   rw [e]
   refine ((((H2.out.no KW.out).consts.sub (B' := (0, fun _ => false) :: B) (fun x hx => ?_)).cong (fun a => rfl)).mono (by simp))
   rcases List.mem_cons.1 hx with rfl | hx
   ·exact .head _
   ·exact .tail _ (.tail _ hx), ⟨fun x hx => .inl hx, Nat.le_refl _⟩, w02, w03, v2⟩
  (fun x a' W => ∃ nb, a' = { tmps := #[ptr p, .agg cs, .string s, .pointer (some ⟨w.heap.size, 0, none⟩), .pointer (some ⟨w.heap.size + 1, 0, none⟩), undef, .int .i64 0, .int .i64 (k : Int), .pointer (some ⟨w1.heap.size, 0, none⟩), undef, .pointer (some ⟨nb, 0, none⟩), undef, .string s, .bool false, .agg cs, .string s, .int .i64 (k : Int), .int .i64 (k : Int), .bool false, .bool false, .int .i64 (k : Int), .pointer (some ⟨w.heap.size + 1, 5, none⟩), .slice (some ⟨ag, og, none⟩) acs.length cp, .int .i64 (acs.length : Int), .bool false, .bool false, .pointer (some ⟨w.heap.size + 1, 5, none⟩), .slice (some ⟨ag, og, none⟩) acs.length cp, .int .i64 (k : Int), .pointer (some ⟨ag, og + k * 2, none⟩), .pointer (some ⟨ag, og + k * 2 + 1, none⟩), .slice bo rs.length bc, .func (.func 101) #[] #[.pointer (some ⟨w1.heap.size + 1, 0, none⟩)], .int .i64 (x : Int), .agg (rs.getD x Ru.z).v, undef, undef, undef, undef, undef, undef, undef, undef, undef, undef], defers := [] } ∧ W.heap[nb]? = some (.cells (rs.getD x Ru.z).v 128 (0, 0)))
  (fun x a' W k o o' ⟨nb, e, h⟩ hk hr => ⟨nb, e, by rw [World.putObj_heap_other (fun q => by rw [q, hk] at h; cases h; cases hr)]; exact h⟩)
  ?assign ?body ?done)
 case assign =>
  intro kk pre x W K hI _ hK
  have HK := Lib.hid hK
  have HI := Lib.hid hI
  clear hK hI
  gi_wp2
  refine HK.out _ _ (.no (Kp.alloc _)) ⟨?_, ?_⟩ ?_ ⟨W.heap.size, rfl, heap_alloc_new _ _⟩
  ·obtain ⟨r, M', L', h, fr, b1, b2, b3⟩ := HI.out
   exact Below.heap_alloc _ _ _ (by omega)
  ·obtain ⟨r, M', L', h, fr, b1, b2, b3⟩ := HI.out
   exact Below.heap_alloc _ _ _ (by omega)
  ·obtain ⟨r, M', L', h, fr, b1, b2, b3⟩ := HI.out
   exact ⟨r, M', L', h.no (Kp.alloc _), ⟨fr.1, by simp; omega⟩, by rw [Below.heap_alloc _ _ _ (heap_lt b1)]; exact b1, by rw [Below.heap_alloc _ _ _ (heap_lt b2)]; exact b2, by rw [Below.heap_alloc _ _ _ (heap_lt b3)]; exact b3⟩
 case body =>
  rintro kl pre x a' y0 ⟨r, M', L', h, ⟨fr, hsW⟩, b1, b2, b3⟩ hp ⟨nb, rfl, hnb⟩
  obtain ⟨hpl, rfl⟩ := bkN_at hp
  obtain ⟨i, hi⟩ : ∃ i, i = rs.length - 1 - pre.length := ⟨_, rfl⟩
  have hil : i < rs.length := by omega
  have HPL : Hid (pre.length < 4) := Lib.hid (by omega)
  have OKX := Lib.hid (hrk rs[i] (List.getElem_mem hil))
  have DROP : Hid (rs.drop i = rs[i] :: rs.drop (rs.length - pre.length)) := Lib.hid (by
   rw [show rs.length - pre.length = i + 1 by omega, List.drop_eq_getElem_cons hil])
  have DR1 : Hid (rs.length - (pre ++ [rs.length - 1 - pre.length]).length = i) := Lib.hid (by simp; omega)
  have GD : rs.getD (rs.length - 1 - pre.length) Ru.z = rs[i] := by rw [← hi, List.getD_eq_getElem?_getD, List.getElem?_eq_getElem hil]; rfl
  rw [GD] at hnb ⊢
  have DLEN : Hid ((rs.drop i).length ≤ 4) := Lib.hid (by rw [List.length_drop]; omega)
  generalize rs[i] = x at *
  have CT : Hid (DC W0 y0 p L w.heap.size w1.heap.size (w1.heap.size + 1) b) := Lib.hid ⟨hsW, by omega, by omega, CT0.out⟩
  have D0 : Hid (PK W0 y0 p L w.heap.size nb w1.heap.size (w1.heap.size + 1) b r x.v cs y0 L') := Lib.hid ⟨b2, b1, hnb, b3, rfl, rfl, fr, Nat.le_refl _, KeepsRec.refl _⟩
  have G0 := Lib.hid (h.consts)
  have BR3 := Lib.hid b2
  obtain ⟨u2, v0, _⟩ := D0.out.S
  clear h fr b1 b2 b3 hnb GD hp
  have HBF := Lib.hid hbf
  have HWF := Lib.hid kw0
  rcases hpm : x.pm with _ | _
  ·as_aux_lemma =>
    have EQ : Hid (∀ a, (if x.F a = true then (fun _ => false) a else aclF (rs.drop (rs.length - pre.length)) a) = aclF (rs.drop i) a) := Lib.hid (fun a => by rw [DROP.out]; show _ = (if x.F a = true then x.pm else _); rw [hpm])
    have PSI : Hid (PSt 220 (fun a => if x.F a = true then (fun _ => false) a else aclF (rs.drop (rs.length - pre.length)) a) 288) := Lib.hid ((aclF_288 DLEN.out).congr EQ.out)
    have HPM := Lib.hid hpm
    rw [hpm] at v0
    gi_wp2
    clear u2 v0 hpm
    have G1 := Lib.hid (G0.out.no (Kp.drew (w := y0)))
    have D1 := Lib.hid (D0.out.no CT.out (Kp.drew (w := y0)))
    refine region_round (S := PS p w.heap.size nb x) (by kernel_rfl) (by kernel_rfl) (fun ⟨_, _, h⟩ => h) D1.out.S (fun hS => ?_)
    generalize y0.drew = y1 at *
    refine tk 0 hS ?_
    refine tk 1 hS ?_
    refine tk 2 hS ?_
    refine tk 4 hS ?_
    refine wpAnyH_ready (rs := [3, 5]) (by kernel_rfl) (by simp) ?_
    refine AllReadyH.cons rfl (fun K hK => ?_) (AllReadyH.cons rfl (fun K hK => ?_) AllReadyH.nil)
    ·as_aux_lemma =>
      have CC2 := Lib.hid (Rule_ok x OKX.out G1.out.rep G1.out.qk G1.out.gl G1.out.off (by have := HC.out; have := HPL.out; omega))
      go_simp
      go_at_call 67
      refine CC2.out.mono ?_
      intro e y2 o
      obtain ⟨r2, M2, L2, rfl, _, g, kk, ff, kr⟩ := G1.out.stepK o
      have D2 := Lib.hid (D1.out.step CT.out G1.out.rep kk ff kr)
      have G2 := Lib.hid g
      clear o g kk ff kr CC2
      go_wp2_with fail
      refine hK.out _ _ D2.out.S (fun hHeld => ?_)
      clear hK K hS
      have hS := hHeld
      clear hHeld
      try simp only [Act.put, List.setIfInBounds_toArray, List.set_cons_zero, List.set_cons_succ]
      refine op1 5 (fun K hK => ?_)
      have lc := D2.out.c
      go_simp
      clear lc
      refine hK.out _ _ D2.out.S (fun hHeld => ?_)
      clear hK K hS
      have hS := hHeld
      clear hHeld
      try simp only [Act.put, List.setIfInBounds_toArray, List.set_cons_zero, List.set_cons_succ]
      have CC3 := Lib.hid (IteQ G2.out.rep G2.out.qk (List.Mem.head _) (List.Mem.tail _ (List.Mem.head _)) (List.Mem.tail _ (List.Mem.tail _ (List.Mem.tail _ (List.Mem.head _)))) PSI.out (by have := HC.out; have := HPL.out; omega))
      refine op1 6 (fun K hK => ?_)
      go_simp
      go_at_call 30
      refine CC3.out.mono ?_
      intro e y3 o
      obtain ⟨r3, M3, L3, rfl, _, g, kk, ff, kr⟩ := G2.out.stepK o
      have D3 := Lib.hid (D2.out.step CT.out G2.out.rep kk ff kr)
      have G3 := Lib.hid g
      clear o g kk ff kr CC3
      go_wp2_with fail
      refine hK.out _ _ D3.out.S (fun hHeld => ?_)
      clear hK K hS
      have hS := hHeld
      clear hHeld
      try simp only [Act.put, List.setIfInBounds_toArray, List.set_cons_zero, List.set_cons_succ]
      refine op1 7 (fun K hK => ?_)
      have lc := D3.out.c
      have lz := D3.out.z
      go_simp
      clear lc lz
      refine hK.out _ _ D3.out.S2 (fun hHeld => ?_)
      clear hK K hS
      have hS := hHeld
      clear hHeld
      try simp only [Act.put, List.setIfInBounds_toArray, List.set_cons_zero, List.set_cons_succ]
      refine wpAnyH_done (by kernel_rfl) ?_ _
      clear hS
      have RES : Hid (KeepsRec y0 (y3.setCell ⟨w1.heap.size, 0, none⟩ (.int .i64 r3)) ∧ BkR (w1.heap.size + 1) b y0 (y3.setCell ⟨w1.heap.size, 0, none⟩ (.int .i64 r3)) ∧ PaI w W0 p c w.heap.size w1.heap.size cs L L B rs (pre ++ [rs.length - 1 - pre.length]) (y3.setCell ⟨w1.heap.size, 0, none⟩ (.int .i64 r3))) := Lib.hid (by
       obtain ⟨a1, a2, a3, a4, a5, a6, a7⟩ := D3.out.fin CT.out G3.out (by have := HWF.out; omega) GLT.out (by omega) (by have := HBF.out; omega) r3
       refine ⟨a1, a2, r3, M3, L3, ?_, a4, a5, a6, a7⟩
       rw [DR1.out]
       refine ((a3.cong EQ.out).sub (fun x hx => ?_)).mono (by simp [Nat.add_mul]; omega)
       rcases List.mem_cons.1 hx with rfl | hx
       ·exact .head _
       ·exact (.tail _ (.tail _ (.tail _ (.tail _ (.tail _ hx))))))
      gi_wp2
      exact RES.out
    ·as_aux_lemma =>
      have lc := D1.out.c
      go_simp
      clear lc
      refine hK.out _ _ D1.out.S (fun hHeld => ?_)
      clear hK K hS
      have hS := hHeld
      clear hHeld
      try simp only [Act.put, List.setIfInBounds_toArray, List.set_cons_zero, List.set_cons_succ]
      have CC2 := Lib.hid (Rule_ok x OKX.out G1.out.rep G1.out.qk G1.out.gl G1.out.off (by have := HC.out; have := HPL.out; omega))
      refine op1 3 (fun K hK => ?_)
      go_simp
      go_at_call 67
      refine CC2.out.mono ?_
      intro e y2 o
      obtain ⟨r2, M2, L2, rfl, _, g, kk, ff, kr⟩ := G1.out.stepK o
      have D2 := Lib.hid (D1.out.step CT.out G1.out.rep kk ff kr)
      have G2 := Lib.hid g
      clear o g kk ff kr CC2
      go_wp2_with fail
      refine hK.out _ _ D2.out.S (fun hHeld => ?_)
      clear hK K hS
      have hS := hHeld
      clear hHeld
      try simp only [Act.put, List.setIfInBounds_toArray, List.set_cons_zero, List.set_cons_succ]
      have CC3 := Lib.hid (IteQ G2.out.rep G2.out.qk (List.Mem.head _) (List.Mem.tail _ (List.Mem.head _)) (List.Mem.tail _ (List.Mem.tail _ (List.Mem.tail _ (List.Mem.head _)))) PSI.out (by have := HC.out; have := HPL.out; omega))
      refine op1 6 (fun K hK => ?_)
      go_simp
      go_at_call 30
      refine CC3.out.mono ?_
      intro e y3 o
      obtain ⟨r3, M3, L3, rfl, _, g, kk, ff, kr⟩ := G2.out.stepK o
      have D3 := Lib.hid (D2.out.step CT.out G2.out.rep kk ff kr)
      have G3 := Lib.hid g
      clear o g kk ff kr CC3
      go_wp2_with fail
      refine hK.out _ _ D3.out.S (fun hHeld => ?_)
      clear hK K hS
      have hS := hHeld
      clear hHeld
      try simp only [Act.put, List.setIfInBounds_toArray, List.set_cons_zero, List.set_cons_succ]
      refine op1 7 (fun K hK => ?_)
      have lc := D3.out.c
      have lz := D3.out.z
      go_simp
      clear lc lz
      refine hK.out _ _ D3.out.S2 (fun hHeld => ?_)
      clear hK K hS
      have hS := hHeld
      clear hHeld
      try simp only [Act.put, List.setIfInBounds_toArray, List.set_cons_zero, List.set_cons_succ]
      refine wpAnyH_done (by kernel_rfl) ?_ _
      clear hS
      have RES : Hid (KeepsRec y0 (y3.setCell ⟨w1.heap.size, 0, none⟩ (.int .i64 r3)) ∧ BkR (w1.heap.size + 1) b y0 (y3.setCell ⟨w1.heap.size, 0, none⟩ (.int .i64 r3)) ∧ PaI w W0 p c w.heap.size w1.heap.size cs L L B rs (pre ++ [rs.length - 1 - pre.length]) (y3.setCell ⟨w1.heap.size, 0, none⟩ (.int .i64 r3))) := Lib.hid (by
       obtain ⟨a1, a2, a3, a4, a5, a6, a7⟩ := D3.out.fin CT.out G3.out (by have := HWF.out; omega) GLT.out (by omega) (by have := HBF.out; omega) r3
       refine ⟨a1, a2, r3, M3, L3, ?_, a4, a5, a6, a7⟩
       rw [DR1.out]
       refine ((a3.cong EQ.out).sub (fun x hx => ?_)).mono (by simp [Nat.add_mul]; omega)
       rcases List.mem_cons.1 hx with rfl | hx
       ·exact .head _
       ·exact (.tail _ (.tail _ (.tail _ (.tail _ (.tail _ hx))))))
      gi_wp2
      exact RES.out
  ·as_aux_lemma =>
    have EQ : Hid (∀ a, (if x.F a = true then (fun _ => true) a else aclF (rs.drop (rs.length - pre.length)) a) = aclF (rs.drop i) a) := Lib.hid (fun a => by rw [DROP.out]; show _ = (if x.F a = true then x.pm else _); rw [hpm])
    have PSI : Hid (PSt 220 (fun a => if x.F a = true then (fun _ => true) a else aclF (rs.drop (rs.length - pre.length)) a) 288) := Lib.hid ((aclF_288 DLEN.out).congr EQ.out)
    have HPM := Lib.hid hpm
    rw [hpm] at v0
    gi_wp2
    clear u2 v0 hpm
    have G1 := Lib.hid (G0.out.no (Kp.drew (w := y0)))
    have D1 := Lib.hid (D0.out.no CT.out (Kp.drew (w := y0)))
    refine region_round (S := PS p w.heap.size nb x) (by kernel_rfl) (by kernel_rfl) (fun ⟨_, _, h⟩ => h) D1.out.S (fun hS => ?_)
    generalize y0.drew = y1 at *
    refine tk 0 hS ?_
    refine tk 1 hS ?_
    refine tk 2 hS ?_
    refine tk 4 hS ?_
    refine wpAnyH_ready (rs := [3, 5]) (by kernel_rfl) (by simp) ?_
    refine AllReadyH.cons rfl (fun K hK => ?_) (AllReadyH.cons rfl (fun K hK => ?_) AllReadyH.nil)
    ·as_aux_lemma =>
      have CC2 := Lib.hid (Rule_ok x OKX.out G1.out.rep G1.out.qk G1.out.gl G1.out.off (by have := HC.out; have := HPL.out; omega))
      go_simp
      go_at_call 67
      refine CC2.out.mono ?_
      intro e y2 o
      obtain ⟨r2, M2, L2, rfl, _, g, kk, ff, kr⟩ := G1.out.stepK o
      have D2 := Lib.hid (D1.out.step CT.out G1.out.rep kk ff kr)
      have G2 := Lib.hid g
      clear o g kk ff kr CC2
      go_wp2_with fail
      refine hK.out _ _ D2.out.S (fun hHeld => ?_)
      clear hK K hS
      have hS := hHeld
      clear hHeld
      try simp only [Act.put, List.setIfInBounds_toArray, List.set_cons_zero, List.set_cons_succ]
      refine op1 5 (fun K hK => ?_)
      have lc := D2.out.c
      go_simp
      clear lc
      refine hK.out _ _ D2.out.S (fun hHeld => ?_)
      clear hK K hS
      have hS := hHeld
      clear hHeld
      try simp only [Act.put, List.setIfInBounds_toArray, List.set_cons_zero, List.set_cons_succ]
      have CC3 := Lib.hid (IteQ G2.out.rep G2.out.qk (List.Mem.head _) (List.Mem.tail _ (List.Mem.tail _ (List.Mem.head _))) (List.Mem.tail _ (List.Mem.tail _ (List.Mem.tail _ (List.Mem.head _)))) PSI.out (by have := HC.out; have := HPL.out; omega))
      refine op1 6 (fun K hK => ?_)
      go_simp
      go_at_call 30
      refine CC3.out.mono ?_
      intro e y3 o
      obtain ⟨r3, M3, L3, rfl, _, g, kk, ff, kr⟩ := G2.out.stepK o
      have D3 := Lib.hid (D2.out.step CT.out G2.out.rep kk ff kr)
      have G3 := Lib.hid g
      clear o g kk ff kr CC3
      go_wp2_with fail
      refine hK.out _ _ D3.out.S (fun hHeld => ?_)
      clear hK K hS
      have hS := hHeld
      clear hHeld
      try simp only [Act.put, List.setIfInBounds_toArray, List.set_cons_zero, List.set_cons_succ]
      refine op1 7 (fun K hK => ?_)
      have lc := D3.out.c
      have lz := D3.out.z
      go_simp
      clear lc lz
      refine hK.out _ _ D3.out.S2 (fun hHeld => ?_)
      clear hK K hS
      have hS := hHeld
      clear hHeld
      try simp only [Act.put, List.setIfInBounds_toArray, List.set_cons_zero, List.set_cons_succ]
      refine wpAnyH_done (by kernel_rfl) ?_ _
      clear hS
      have RES : Hid (KeepsRec y0 (y3.setCell ⟨w1.heap.size, 0, none⟩ (.int .i64 r3)) ∧ BkR (w1.heap.size + 1) b y0 (y3.setCell ⟨w1.heap.size, 0, none⟩ (.int .i64 r3)) ∧ PaI w W0 p c w.heap.size w1.heap.size cs L L B rs (pre ++ [rs.length - 1 - pre.length]) (y3.setCell ⟨w1.heap.size, 0, none⟩ (.int .i64 r3))) := Lib.hid (by
       obtain ⟨a1, a2, a3, a4, a5, a6, a7⟩ := D3.out.fin CT.out G3.out (by have := HWF.out; omega) GLT.out (by omega) (by have := HBF.out; omega) r3
       refine ⟨a1, a2, r3, M3, L3, ?_, a4, a5, a6, a7⟩
       rw [DR1.out]
       refine ((a3.cong EQ.out).sub (fun x hx => ?_)).mono (by simp [Nat.add_mul]; omega)
       rcases List.mem_cons.1 hx with rfl | hx
       ·exact .head _
       ·exact (.tail _ (.tail _ (.tail _ (.tail _ (.tail _ hx))))))
      gi_wp2
      exact RES.out
    ·as_aux_lemma =>
      have lc := D1.out.c
      go_simp
      clear lc
      refine hK.out _ _ D1.out.S (fun hHeld => ?_)
      clear hK K hS
      have hS := hHeld
      clear hHeld
      try simp only [Act.put, List.setIfInBounds_toArray, List.set_cons_zero, List.set_cons_succ]
      have CC2 := Lib.hid (Rule_ok x OKX.out G1.out.rep G1.out.qk G1.out.gl G1.out.off (by have := HC.out; have := HPL.out; omega))
      refine op1 3 (fun K hK => ?_)
      go_simp
      go_at_call 67
      refine CC2.out.mono ?_
      intro e y2 o
      obtain ⟨r2, M2, L2, rfl, _, g, kk, ff, kr⟩ := G1.out.stepK o
      have D2 := Lib.hid (D1.out.step CT.out G1.out.rep kk ff kr)
      have G2 := Lib.hid g
      clear o g kk ff kr CC2
      go_wp2_with fail
      refine hK.out _ _ D2.out.S (fun hHeld => ?_)
      clear hK K hS
      have hS := hHeld
      clear hHeld
      try simp only [Act.put, List.setIfInBounds_toArray, List.set_cons_zero, List.set_cons_succ]
      have CC3 := Lib.hid (IteQ G2.out.rep G2.out.qk (List.Mem.head _) (List.Mem.tail _ (List.Mem.tail _ (List.Mem.head _))) (List.Mem.tail _ (List.Mem.tail _ (List.Mem.tail _ (List.Mem.head _)))) PSI.out (by have := HC.out; have := HPL.out; omega))
      refine op1 6 (fun K hK => ?_)
      go_simp
      go_at_call 30
      refine CC3.out.mono ?_
      intro e y3 o
      obtain ⟨r3, M3, L3, rfl, _, g, kk, ff, kr⟩ := G2.out.stepK o
      have D3 := Lib.hid (D2.out.step CT.out G2.out.rep kk ff kr)
      have G3 := Lib.hid g
      clear o g kk ff kr CC3
      go_wp2_with fail
      refine hK.out _ _ D3.out.S (fun hHeld => ?_)
      clear hK K hS
      have hS := hHeld
      clear hHeld
      try simp only [Act.put, List.setIfInBounds_toArray, List.set_cons_zero, List.set_cons_succ]
      refine op1 7 (fun K hK => ?_)
      have lc := D3.out.c
      have lz := D3.out.z
      go_simp
      clear lc lz
      refine hK.out _ _ D3.out.S2 (fun hHeld => ?_)
      clear hK K hS
      have hS := hHeld
      clear hHeld
      try simp only [Act.put, List.setIfInBounds_toArray, List.set_cons_zero, List.set_cons_succ]
      refine wpAnyH_done (by kernel_rfl) ?_ _
      clear hS
      have RES : Hid (KeepsRec y0 (y3.setCell ⟨w1.heap.size, 0, none⟩ (.int .i64 r3)) ∧ BkR (w1.heap.size + 1) b y0 (y3.setCell ⟨w1.heap.size, 0, none⟩ (.int .i64 r3)) ∧ PaI w W0 p c w.heap.size w1.heap.size cs L L B rs (pre ++ [rs.length - 1 - pre.length]) (y3.setCell ⟨w1.heap.size, 0, none⟩ (.int .i64 r3))) := Lib.hid (by
       obtain ⟨a1, a2, a3, a4, a5, a6, a7⟩ := D3.out.fin CT.out G3.out (by have := HWF.out; omega) GLT.out (by omega) (by have := HBF.out; omega) r3
       refine ⟨a1, a2, r3, M3, L3, ?_, a4, a5, a6, a7⟩
       rw [DR1.out]
       refine ((a3.cong EQ.out).sub (fun x hx => ?_)).mono (by simp [Nat.add_mul]; omega)
       rcases List.mem_cons.1 hx with rfl | hx
       ·exact .head _
       ·exact (.tail _ (.tail _ (.tail _ (.tail _ (.tail _ hx))))))
      gi_wp2
      exact RES.out
 case done =>
  rintro D W hD ⟨r, M', L', h, ⟨fr, hsW⟩, b1, b2, b3⟩ hK
  have c2 : W.cell? ⟨w1.heap.size, 0, none⟩ = some (.int .i64 r) := by rw [cell_of_row _ _ _ _ _ _ b3]; rfl
  rw [bkN_len, Nat.sub_self, List.drop_zero] at h
  have hcost : c + rs.length * 110000000 ≤ c + 500000000 := by omega
  have RET : Hid (OpQ p 220 (c + 500000000) L w (aclS acs s) B (.returned (.int .i64 r)) (W.putObj D (.deferred none))) := Lib.hid (by
   rw [FE.out]
   exact (h.put (by omega) hK rfl _).ret (.head _) (fun x hx => .tail _ hx) hcost)
  clear h
  go_wp2
  refine ⟨by simp, .inl ⟨_, _, rfl, run_takeDeferred hK, ?_⟩⟩
  refine ⟨_, results_tmp rfl _ _ _, ?_⟩
  exact RET.out

end Go.Proofs.YtdgnbbmgcgfibaaGreatDoor

namespace Go.Proofs.YtdgnbbmgcgfibaaGreatDoor
open Go.RowKit

theorem pick_list {α : Type} {P : Nat → α → Prop} : ∀ n : Nat, (∀ j, j < n → ∃ x, P j x) → ∃ l : List α, l.length = n ∧ ∀ j x, l[j]? = some x → P j x
 | 0, _ => ⟨[], rfl, fun j x h => by simp at h⟩
 | n + 1, h => by
  obtain ⟨l, hl, hp⟩ := pick_list n (fun j hj => h j (by omega))
  obtain ⟨x, hx⟩ := h n (by omega)
  refine ⟨l ++ [x], by simp [hl], fun j y hy => ?_⟩
  by_cases hj : j < l.length
  ·rw [List.getElem?_append_left hj] at hy
   exact hp j y hy
  ·have hlt := (List.getElem?_eq_some_iff.1 hy).1
   have e : j = l.length := by simp at hlt; omega
   rw [e, List.getElem?_append_right (Nat.le_refl _), Nat.sub_self] at hy
   simp at hy
   rw [e, hl, ← hy]
   exact hx
theorem mem_at {α : Type} {l : List α} {P : Nat → α → Prop} (h : ∀ j x, l[j]? = some x → P j x) {x : α} (hx : x ∈ l) : ∃ j, P j x := by
 obtain ⟨j, hj, rfl⟩ := List.getElem_of_mem hx
 exact ⟨j, h j _ (List.getElem?_eq_getElem hj)⟩
theorem nat_list {w : World} {ao : Option Addr} {n : Nat} (h : ∀ j, j < n → NatOk w ao j) : ∃ ts : List Tr, ts.length = n ∧ (∀ t, t ∈ ts → t.ok) ∧ (n = 0 ∨ ∃ g o, ao = some ⟨g, o, none⟩ ∧ g < w.heap.size ∧ ∀ j t, ts[j]? = some t → TrAt w g (o + j * 9) t) := by
 rcases Nat.eq_zero_or_pos n with h0 | h0
 ·subst h0
  exact ⟨[], rfl, (fun t ht => by cases ht), .inl rfl⟩
 obtain ⟨g, o, _, _, _, _, _, _, _, _, _, e, hg, _⟩ := h 0 h0
 obtain ⟨ts, hl, hp⟩ := pick_list (α := Tr) (P := fun j t => t.ok ∧ TrAt w g (o + j * 9) t) n (fun j hj => by
  obtain ⟨g', o', a0, a1, a2, a3, a4, a5, a6, a7, a8, e', _, hc, ⟨b1, b2, b3, b4⟩, hr⟩ := h j hj
  rw [e] at e'
  injection e' with e'
  injection e' with e1 e2
  subst e1
  subst e2
  exact ⟨⟨a0, a1, a2, a3, a4, a5, a6, a7, a8⟩, ⟨hr, b1, b2, b3, b4⟩, hc⟩)
 exact ⟨ts, hl, fun t ht => by obtain ⟨j, hj, _⟩ := mem_at hp ht; exact hj, .inr ⟨g, o, e, hg, fun j t hj => (hp j t hj).2⟩⟩
theorem ru_list {w : World} {ao : Option Addr} {n cp : Nat} (h : Flat w ruK (.slice ao n cp)) : ∃ rs : List Ru, rs.length = n ∧ (∀ y, y ∈ rs → y.ok) ∧ (n = 0 ∨ ∃ g o, ao = some ⟨g, o, none⟩ ∧ g < w.heap.size ∧ ∀ j t, rs[j]? = some t → RuAt w g (o + j * 10) t) := by
 rcases Nat.eq_zero_or_pos n with h0 | h0
 ·subst h0
  exact ⟨[], rfl, (fun t ht => by cases ht), .inl rfl⟩
 obtain ⟨g, o, _, _, _, _, _, _, _, _, _, _, e, hg, _⟩ := ru_at h h0
 obtain ⟨rs, hl, hp⟩ := pick_list (α := Ru) (P := fun j t => t.ok ∧ RuAt w g (o + j * 10) t) n (fun j hj => by
  obtain ⟨g', o', a0, a1, a2, a3, a4, a5, a6, a7, a8, a9, e', _, hc, _, b1, b2, b3, b4, _⟩ := ru_at h hj
  rw [e] at e'
  injection e' with e'
  injection e' with e1 e2
  subst e1
  subst e2
  exact ⟨⟨a0, a1, a2, a3, a4, a5, a6, a7, a8, a9⟩, ⟨b1, b2, b3, b4⟩, hc⟩)
 exact ⟨rs, hl, fun t ht => by obtain ⟨j, hj, _⟩ := mem_at hp ht; exact hj, .inr ⟨g, o, e, hg, fun j t hj => (hp j t hj).2⟩⟩
theorem ac_list {w : World} {ao : Option Addr} {n cp : Nat} (h : Nest w acK (.slice ao n cp)) (hs : ∀ j, j < n → AclS w ao j) : ∃ acs : List (ByteArray × List Ru), acs.length = n ∧ (∀ x, x ∈ acs → x.2.length ≤ 4) ∧ (∀ x, x ∈ acs → ∀ y, y ∈ x.2 → y.ok) ∧ (n = 0 ∨ ∃ g o, ao = some ⟨g, o, none⟩ ∧ g < w.heap.size ∧ ∀ j x, acs[j]? = some x → w.cell? ⟨g, o + j * 2, none⟩ = some (.string x.1) ∧ ∃ (bo : Option Addr) (bc : Nat), w.cell? ⟨g, o + j * 2 + 1, none⟩ = some (.slice bo x.2.length bc) ∧ x.2.length ≤ bc ∧ bc ≤ 9223372036854775807 ∧ (x.2.length = 0 ∨ ∃ b ob, bo = some ⟨b, ob, none⟩ ∧ b < w.heap.size ∧ ∀ i y, x.2[i]? = some y → RuAt w b (ob + i * 10) y)) := by
 rcases Nat.eq_zero_or_pos n with h0 | h0
 ·subst h0
  exact ⟨[], rfl, (fun t ht => by cases ht), (fun t ht => by cases ht), .inl rfl⟩
 obtain ⟨g, o, _, _, _, _, e, hg, _⟩ := ac_at h h0
 obtain ⟨acs, hl, hp⟩ := pick_list (α := ByteArray × List Ru) (P := fun j x => x.2.length ≤ 4 ∧ (∀ y, y ∈ x.2 → y.ok) ∧ w.cell? ⟨g, o + j * 2, none⟩ = some (.string x.1) ∧ ∃ (bo : Option Addr) (bc : Nat), w.cell? ⟨g, o + j * 2 + 1, none⟩ = some (.slice bo x.2.length bc) ∧ x.2.length ≤ bc ∧ bc ≤ 9223372036854775807 ∧ (x.2.length = 0 ∨ ∃ b ob, bo = some ⟨b, ob, none⟩ ∧ b < w.heap.size ∧ ∀ i y, x.2[i]? = some y → RuAt w b (ob + i * 10) y)) n (fun j hj => by
  obtain ⟨g', o', a0, a1, n1, c1, e', _, ⟨f0, f1⟩, _, hf, hc1, hc2⟩ := ac_at h hj
  obtain ⟨g2, o2, s2, b2, n2, c2, e2, _, q1, q2⟩ := hs j hj
  rw [e] at e' e2
  injection e' with e'
  injection e' with e1 e3
  injection e2 with e2
  injection e2 with e4 e5
  subst e1
  subst e3
  subst e4
  subst e5
  rw [f1] at q1
  injection q1 with q1
  injection q1 with _ q3 _
  obtain ⟨rs, hl, hr, hx⟩ := ru_list hf
  subst hl
  exact ⟨(a0, rs), by show rs.length ≤ 4; omega, hr, f0, a1, c1, f1, hc1, hc2, hx⟩)
 exact ⟨acs, hl, (fun x hx => by obtain ⟨j, hj, _⟩ := mem_at hp hx; exact hj), (fun x hx => by obtain ⟨j, _, hj, _⟩ := mem_at hp hx; exact hj), .inr ⟨g, o, e, hg, fun j x hj => (hp j x hj).2.2⟩⟩
theorem router_lists {w : World} {cs : Array Value} (ok : RtC w cs) (sm : SmlR w cs) : ∃ (ts : List Tr) (acs : List (ByteArray × List Ru)), ts.length ≤ 4 ∧ (∀ t, t ∈ ts → t.ok) ∧ (∀ x, x ∈ acs → x.2.length ≤ 4) ∧ (∀ x, x ∈ acs → ∀ y, y ∈ x.2 → y.ok) ∧
  ∀ (w' : World) (p : Nat) (L : Lay), Kp No w w' → (∀ k, k < w.heap.size → ¬ L.at p k) → NatAt w' p L cs ts ∧ AcAt w' p L cs acs := by
 obtain ⟨na, nn, nc, hn, hf, hn1, hn2⟩ := ok.nat
 obtain ⟨aa, an, ac, ha, hg, ha1, ha2⟩ := ok.acls
 obtain ⟨m4, hm⟩ := sm.1 na nn nc hn
 obtain ⟨k4, hk⟩ := sm.2 aa an ac ha
 obtain ⟨ts, tl, tok, tx⟩ := nat_list hm
 obtain ⟨acs, al, ale, aok, ax⟩ := ac_list hg hk
 subst tl
 subst al
 refine ⟨ts, acs, m4, tok, ale, aok, fun w' p L k hL => ⟨⟨na, nc, hn, hn1, hn2, ?_⟩, ⟨aa, ac, ha, ha1, ha2, ?_⟩⟩⟩
 ·rcases tx with h0 | ⟨g, o, e, hgs, hc⟩
  ·exact .inl h0
  refine .inr ⟨g, o, e, Nat.lt_of_lt_of_le hgs k.size, hL g hgs, fun j t hj => ?_⟩
  have := hc j t hj
  unfold TrAt at this ⊢
  have kk : ∀ z, w'.cell? ⟨g, z, none⟩ = w.cell? ⟨g, z, none⟩ := fun z => k.cell (a := ⟨g, z, none⟩) hgs (fun h => h)
  simp only [kk]
  exact this
 ·rcases ax with h0 | ⟨g, o, e, hgs, hc⟩
  ·exact .inl h0
  refine .inr ⟨g, o, e, Nat.lt_of_lt_of_le hgs k.size, hL g hgs, fun j x hj => ?_⟩
  obtain ⟨f0, bo, bc, f1, h1, h2, h3⟩ := hc j x hj
  refine ⟨by rw [k.cell (a := ⟨g, o + j * 2, none⟩) hgs (fun h => h)]; exact f0, bo, bc, by rw [k.cell (a := ⟨g, o + j * 2 + 1, none⟩) hgs (fun h => h)]; exact f1, h1, h2, ?_⟩
  rcases h3 with h0 | ⟨b, ob, e2, hb, hy⟩
  ·exact .inl h0
  exact .inr ⟨b, ob, e2, Nat.lt_of_lt_of_le hb k.size, hL b hb, fun i y hi => (hy i y hi).of (fun z => k.cell (a := ⟨b, z, none⟩) hb (fun h => h))⟩

end Go.Proofs.YtdgnbbmgcgfibaaGreatDoor

namespace Go.Proofs.YtdgnbbmgcgfibaaGreatDoor
open Go.RowKit

def ePQ (p q : Pkt) : Nat → Bool := asg (gL (encF (fun _ => false) p q))
theorem bitsEq {n x y : Nat} (hx : x < 2 ^ n) (hy : y < 2 ^ n) (h : ∀ i, i < n → x.testBit i = y.testBit i) : x = y := by
 apply Nat.eq_of_testBit_eq
 intro i
 by_cases hi : i < n
 ·exact h i hi
 ·rw [Nat.testBit_lt_two_pow (Nat.lt_of_lt_of_le hx (Nat.pow_le_pow_right (by omega) (by omega))), Nat.testBit_lt_two_pow (Nat.lt_of_lt_of_le hy (Nat.pow_le_pow_right (by omega) (by omega)))]
theorem fieldCut {u : Nat} (hu : u < 104) : ∃ k b, k < 5 ∧ b < fw k ∧ u = ff k + b := by
 by_cases h0 : u < 32
 ·exact ⟨0, u, by omega, h0, by simp [ff]⟩
 by_cases h1 : u < 64
 ·exact ⟨1, u - 32, by omega, by show _ < 32; omega, by show _ = 32 + _; omega⟩
 by_cases h2 : u < 72
 ·exact ⟨2, u - 64, by omega, by show _ < 8; omega, by show _ = 64 + _; omega⟩
 by_cases h3 : u < 88
 ·exact ⟨3, u - 72, by omega, by show _ < 16; omega, by show _ = 72 + _; omega⟩
 ·exact ⟨4, u - 88, by omega, by show _ < 16; omega, by show _ = 88 + _; omega⟩
theorem sam_enc {p q : Pkt} (hp : p.ok) (hq : q.ok) (W : Nat → Bool) : samF W (ePQ p q) = true ↔ ∀ k, k < 5 → W k = true → p.f k = q.f k := by
 have eb : ∀ u nx, u < 104 → ePQ p q (hvar u nx) = (if nx then q else p).bit u := fun u nx hu => by unfold ePQ; rw [gL_at _ (hvar_lt hu nx), enc_bit]
 rw [samF_iff]
 constructor
 ·intro h k hk hw
  have hff := ff_fw hk
  exact bitsEq (hp.lt hk) (hq.lt hk) (fun i hi => by
   have h1 := h (ff k + (fw k - 1 - i)) (by omega) (by rw [fieldOf_at hk (by omega)]; exact hw)
   rw [eb _ false (by omega), eb _ true (by omega)] at h1
   simp only [Bool.false_eq_true, if_false, if_true] at h1
   rw [p.bit_at hk (by omega), q.bit_at hk (by omega), show fw k - 1 - (fw k - 1 - i) = i by omega] at h1
   exact h1)
 ·intro h u hu hw
  obtain ⟨k, b, hk, hb, rfl⟩ : ∃ k b, k < 5 ∧ b < fw k ∧ u = ff k + b := fieldCut hu
  rw [fieldOf_at hk hb] at hw
  have h3 := h k hk hw
  rw [eb _ false hu, eb _ true hu]
  simp only [Bool.false_eq_true, if_false, if_true]
  rw [p.bit_at hk hb, q.bit_at hk hb, h3]
theorem rg_enc {p q : Pkt} (hp : p.ok) (hq : q.ok) {k : Nat} (hk : k < 5) (nx : Bool) (lo hi : Nat) : rgF k nx lo hi (ePQ p q) = true ↔ lo ≤ (if nx then q else p).f k ∧ (if nx then q else p).f k ≤ hi := by
 unfold ePQ
 rw [rgF_enc _ hp hq hk nx lo hi, decide_eq_true_eq]
theorem u32_of {x : Int} (h : 0 ≤ x ∧ x < 4294967296) : (u32 x : Int) = x := by unfold u32; omega
theorem pkt_ext {p q : Pkt} (hp : p.ok) (hq : q.ok) (h : ∀ k, k < 5 → p.f k = q.f k) : p = q := by
 have h0 : p.src = q.src := h 0 (by omega)
 have h1 : p.dst = q.dst := h 1 (by omega)
 have h2 : u32 p.proto = u32 q.proto := h 2 (by omega)
 have h3 : u32 p.sport = u32 q.sport := h 3 (by omega)
 have h4 : u32 p.dport = u32 q.dport := h 4 (by omega)
 have a2 := hp.h2
 have a3 := hp.h3
 have a4 := hp.h4
 have b2 := hq.h2
 have b3 := hq.h3
 have b4 := hq.h4
 unfold u32 at h2 h3 h4
 cases p
 cases q
 simp only [Pkt.mk.injEq]
 simp only at h0 h1 h2 h3 h4 a2 a3 a4 b2 b3 b4
 exact ⟨h0, h1, by omega, by omega, by omega⟩

/-! ### destinations -/
def pkDst : List Tr → Pkt → Pkt
 | [], p => p
 | t :: l, p => if t.k = 1 ∧ t.o = p.dst then { p with dst := t.i } else if t.k = 3 ∧ t.o = p.dst ∧ t.pr = p.proto ∧ t.op = p.dport then { p with dst := t.i, dport := t.ip } else pkDst l p
theorem Tr.ok.kinds {t : Tr} (h : t.ok) : t.k = 1 ∨ (t.k = 2 ∧ t.lo ≤ t.hi ∧ t.hi - t.lo < 8) ∨ (t.k = 3 ∧ (t.pr = 6 ∨ t.pr = 17) ∧ (0 ≤ t.ip ∧ t.ip ≤ 65535) ∧ (0 ≤ t.op ∧ t.op ≤ 65535)) := h.r
theorem pkDst_ok : ∀ (ts : List Tr), (∀ t, t ∈ ts → t.ok) → ∀ {p : Pkt}, p.ok → (pkDst ts p).ok
 | [], _, _, hp => hp
 | t :: l, h, p, hp => by
  have ht := h t (List.mem_cons_self ..)
  unfold pkDst
  split
  ·exact ⟨hp.h0, ht.i, hp.h2, hp.h3, hp.h4⟩
  ·split
   ·rename_i h1 h2
    rcases ht.kinds with e | ⟨e, _⟩ | ⟨e, _, e2, _⟩
    ·omega
    ·omega
    ·exact ⟨hp.h0, ht.i, hp.h2, hp.h3, e2⟩
   ·exact pkDst_ok l (fun t ht => h t (List.mem_cons_of_mem _ ht)) hp
theorem sam_all {p q : Pkt} (hp : p.ok) (hq : q.ok) : samF (exW []) (ePQ p q) = true ↔ q = p := by
 rw [sam_enc hp hq]
 constructor
 ·intro h
  exact (pkt_ext hp hq (fun k hk => h k hk (by unfold exW; simp [hk]))).symm
 ·rintro rfl k _ _
  rfl
theorem five_all {P : Nat → Prop} (h : P 0 ∧ P 1 ∧ P 2 ∧ P 3 ∧ P 4) : ∀ k, k < 5 → P k := fun k hk => by
 rcases five hk with rfl | rfl | rfl | rfl | rfl
 ·exact h.1
 ·exact h.2.1
 ·exact h.2.2.1
 ·exact h.2.2.2.1
 ·exact h.2.2.2.2
theorem dst_enc (ac : ByteArray → List Ru) : ∀ (ts : List Tr), (∀ t, t ∈ ts → t.ok) → ∀ {p q : Pkt}, p.ok → q.ok → (dstF (ts.map (Tr.ent ac)) (ePQ p q) = true ↔ q = pkDst ts p)
 | [], _, p, q, hp, hq => sam_all hp hq
 | t :: l, h, p, q, hp, hq => by
  have ht := h t (List.mem_cons_self ..)
  have ih := dst_enc ac l (fun t ht => h t (List.mem_cons_of_mem _ ht)) hp hq
  show (if (t.ent ac).dapp (ePQ p q) = true then (t.ent ac).dchg (ePQ p q) else dstF (l.map (Tr.ent ac)) (ePQ p q)) = true ↔ q = pkDst (t :: l) p
  unfold pkDst
  rcases ht.kinds with e | ⟨e, _⟩ | ⟨e, e1, e2, e3⟩
  ·have E : t.ent ac = .stat t.i t.o := by unfold Tr.ent; rw [if_pos e]
   rw [E]
   have A : (Ent.stat t.i t.o).dapp (ePQ p q) = true ↔ t.o = p.dst := by
    show rgF 1 false t.o t.o (ePQ p q) = true ↔ _
    rw [rg_enc hp hq (by omega)]
    show t.o ≤ p.dst ∧ p.dst ≤ t.o ↔ _
    omega
   by_cases ho : t.o = p.dst
   ·rw [if_pos (A.2 ho), if_pos ⟨e, ho⟩]
    show (samF (exW [1]) (ePQ p q) && (rgF 1 true t.i t.i (ePQ p q) && true)) = true ↔ _
    rw [Bool.and_true, Bool.and_eq_true, sam_enc hp hq, rg_enc hp hq (by omega)]
    show _ ∧ (t.i ≤ q.dst ∧ q.dst ≤ t.i) ↔ _
    constructor
    ·rintro ⟨h1, h2⟩
     have hx : ({ p with dst := t.i } : Pkt).ok := ⟨hp.h0, ht.i, hp.h2, hp.h3, hp.h4⟩
     exact (pkt_ext hx hq (five_all ⟨h1 0 (by omega) (by decide), (show t.i = q.dst by omega), h1 2 (by omega) (by decide), h1 3 (by omega) (by decide), h1 4 (by omega) (by decide)⟩)).symm
    ·rintro rfl
     refine ⟨five_all ⟨fun _ => rfl, fun hw => absurd hw (by decide), fun _ => rfl, fun _ => rfl, fun _ => rfl⟩, Nat.le_refl _, Nat.le_refl _⟩
   ·rw [if_neg (fun h => ho (A.1 h)), if_neg (fun h => ho h.2), if_neg (fun h => by have := h.1; omega)]
    exact ih
  ·have E : t.ent ac = .pool t.nm.toList.isEmpty (ac t.nm) t.lo t.hi := by unfold Tr.ent; rw [if_neg (by omega), if_pos e]
   rw [E, if_neg (show ¬ ((Ent.pool t.nm.toList.isEmpty (ac t.nm) t.lo t.hi).dapp (ePQ p q) = true) from Bool.false_ne_true), if_neg (fun h => by have := h.1; omega), if_neg (fun h => by have := h.1; omega)]
   exact ih
  ·have E : t.ent ac = .fwd t.i t.pr.toNat t.ip.toNat t.o t.op.toNat := by unfold Tr.ent; rw [if_neg (by omega), if_neg (by omega)]
   rw [E]
   have u2 := u32_of (x := p.proto) ⟨hp.h2.1, by have := hp.h2.2; omega⟩
   have u4 := u32_of (x := p.dport) ⟨hp.h4.1, by have := hp.h4.2; omega⟩
   have v4 := u32_of (x := q.dport) ⟨hq.h4.1, by have := hq.h4.2; omega⟩
   have A : (Ent.fwd t.i t.pr.toNat t.ip.toNat t.o t.op.toNat).dapp (ePQ p q) = true ↔ t.o = p.dst ∧ t.pr = p.proto ∧ t.op = p.dport := by
    show (rgF 1 false t.o t.o (ePQ p q) && (rgF 2 false t.pr.toNat t.pr.toNat (ePQ p q) && (rgF 4 false t.op.toNat t.op.toNat (ePQ p q) && true))) = true ↔ _
    rw [Bool.and_true, Bool.and_eq_true, Bool.and_eq_true, rg_enc hp hq (by omega), rg_enc hp hq (by omega), rg_enc hp hq (by omega)]
    show (t.o ≤ p.dst ∧ p.dst ≤ t.o) ∧ (t.pr.toNat ≤ u32 p.proto ∧ u32 p.proto ≤ t.pr.toNat) ∧ (t.op.toNat ≤ u32 p.dport ∧ u32 p.dport ≤ t.op.toNat) ↔ _
    omega
   by_cases ho : t.o = p.dst ∧ t.pr = p.proto ∧ t.op = p.dport
   ·rw [if_pos (A.2 ho), if_neg (fun h => by have := h.1; omega), if_pos ⟨e, ho⟩]
    show (samF (exW [1, 4]) (ePQ p q) && (rgF 1 true t.i t.i (ePQ p q) && (rgF 4 true t.ip.toNat t.ip.toNat (ePQ p q) && true))) = true ↔ _
    rw [Bool.and_true, Bool.and_eq_true, Bool.and_eq_true, sam_enc hp hq, rg_enc hp hq (by omega), rg_enc hp hq (by omega)]
    show _ ∧ (t.i ≤ q.dst ∧ q.dst ≤ t.i) ∧ (t.ip.toNat ≤ u32 q.dport ∧ u32 q.dport ≤ t.ip.toNat) ↔ _
    have u5 := u32_of (x := t.ip) ⟨e2.1, by have := e2.2; omega⟩
    constructor
    ·rintro ⟨h1, h2, h3⟩
     have hx : ({ p with dst := t.i, dport := t.ip } : Pkt).ok := ⟨hp.h0, ht.i, hp.h2, hp.h3, e2⟩
     exact (pkt_ext hx hq (five_all ⟨h1 0 (by omega) (by decide), (show t.i = q.dst by omega), h1 2 (by omega) (by decide), h1 3 (by omega) (by decide), (show u32 t.ip = u32 q.dport by omega)⟩)).symm
    ·intro hqq
     have w1 : q.dst = t.i := by rw [hqq]
     have w2 : q.dport = t.ip := by rw [hqq]
     refine ⟨five_all ⟨fun _ => by rw [hqq]; rfl, fun hw => absurd hw (by decide), fun _ => by rw [hqq]; rfl, fun _ => by rw [hqq]; rfl, fun hw => absurd hw (by decide)⟩, by omega, by rw [w2]; omega⟩
   ·rw [if_neg (fun h => ho (A.1 h)), if_neg (fun h => by have := h.1; omega), if_neg (fun h => ho h.2)]
    exact ih

/-! ### rules -/
def wmB (ad ma z : Nat) : Bool := (List.range 32).all fun i => ma.testBit i || (z.testBit i == ad.testBit i)
theorem wmB_iff {ad ma z : Nat} : wmB ad ma z = true ↔ ∀ i, i < 32 → ma.testBit i = false → z.testBit i = ad.testBit i := by
 unfold wmB
 rw [List.all_eq_true]
 simp only [List.mem_range, Bool.or_eq_true, beq_iff_eq]
 constructor
 ·intro h i hi hm
  rcases h i hi with h | h
  ·rw [hm] at h; cases h
  ·exact h
 ·intro h i hi
  cases hm : ma.testBit i
  ·exact .inr (h i hi hm)
  ·exact .inl rfl
def ruB (x : Ru) (p : Pkt) : Bool := (decide (x.pr = -1) || decide (x.pr = p.proto)) && wmB x.sa x.sm p.src && wmB x.da x.dm p.dst && inB x.sl x.sh p.sport && inB x.dl x.dh p.dport
theorem wn_enc {p q : Pkt} (hp : p.ok) (hq : q.ok) {k : Nat} (hk : k < 5) {n : Int} (hn : p.f k = u32 n) (h : 0 ≤ n ∧ n ≤ 65535) (lo hi : Int) : wnF k lo hi (ePQ p q) = inB lo hi n := by
 have hu := u32_of (x := n) ⟨h.1, by omega⟩
 rw [Bool.eq_iff_iff]
 unfold wnF
 rw [rg_enc hp hq hk]
 show (wnP lo hi).1 ≤ p.f k ∧ p.f k ≤ (wnP lo hi).2 ↔ inB lo hi n = true
 rw [hn]
 unfold inB wnP
 rw [decide_eq_true_eq]
 split
 ·dsimp only
  omega
 ·dsimp only
  omega
theorem wi_enc {p q : Pkt} {k : Nat} (hk : k < 2) (ad ma : Nat) : wiF k false ad ma 32 (ePQ p q) = wmB ad ma (p.f k) := by
 have hf32 : fw k = 32 := by rcases (show k = 0 ∨ k = 1 by omega) with rfl | rfl <;> rfl
 have h := wild_enc (fun _ => false) p q (k := k) (by omega) false ad ma
 rw [hf32] at h
 rw [Bool.eq_iff_iff, wmB_iff]
 exact h
theorem ru_enc {p q : Pkt} (hp : p.ok) (hq : q.ok) (x : Ru) : x.F (ePQ p q) = ruB x p := by
 unfold Ru.F Ru.c1 Ru.cu Ru.wi ruB
 rw [wi_enc (by omega), wi_enc (by omega), wn_enc hp hq (by omega) (show p.f 2 = u32 p.proto from rfl) ⟨hp.h2.1, by have := hp.h2.2; omega⟩, wn_enc hp hq (by omega) (show p.f 3 = u32 p.sport from rfl) hp.h3, wn_enc hp hq (by omega) (show p.f 4 = u32 p.dport from rfl) hp.h4]
 have e1 : inB x.pr x.pr p.proto = decide (x.pr = p.proto) := by
  unfold inB
  rw [decide_eq_decide]
  omega
 rw [e1]
 show (wmB x.sa x.sm p.src && wmB x.da x.dm p.dst && (decide (x.pr = -1) || decide (x.pr = p.proto)) && inB x.sl x.sh p.sport && inB x.dl x.dh p.dport) = _
 generalize wmB x.sa x.sm p.src = b1
 generalize wmB x.da x.dm p.dst = b2
 generalize (decide (x.pr = -1) || decide (x.pr = p.proto)) = b3
 cases b1 <;> cases b2 <;> cases b3 <;> rfl
def aclB : List Ru → Pkt → Bool
 | [], _ => false
 | x :: l, p => if ruB x p = true then x.pm else aclB l p
theorem acl_enc {p q : Pkt} (hp : p.ok) (hq : q.ok) : ∀ l : List Ru, aclF l (ePQ p q) = aclB l p
 | [] => rfl
 | x :: l => by
  show (if x.F (ePQ p q) = true then x.pm else aclF l (ePQ p q)) = if ruB x p = true then x.pm else aclB l p
  rw [ru_enc hp hq, acl_enc hp hq l]

/-! ### sources -/
def pmB (ac : ByteArray → List Ru) (nm : ByteArray) (p : Pkt) : Bool := nm.toList.isEmpty || aclB (ac nm) p
def poolP (lo : Nat) (n : Nat) (p : Pkt) : List Pkt := (List.range n).map fun j => { p with src := lo + j }
def pkSrc (ac : ByteArray → List Ru) : List Tr → Pkt → List Pkt
 | [], p => [p]
 | t :: l, p => if t.k = 1 ∧ t.i = p.src then [{ p with src := t.o }] else if t.k = 2 ∧ pmB ac t.nm p = true then poolP t.lo (t.hi - t.lo + 1) p else if t.k = 3 ∧ t.i = p.src ∧ t.pr = p.proto ∧ t.ip = p.sport then [{ p with src := t.o, sport := t.op }] else pkSrc ac l p
theorem mem_pool {lo n : Nat} {p q : Pkt} : q ∈ poolP lo n p ↔ ∃ j, j < n ∧ q = { p with src := lo + j } := by
 unfold poolP
 rw [List.mem_map]
 constructor
 ·rintro ⟨j, hj, rfl⟩
  exact ⟨j, List.mem_range.1 hj, rfl⟩
 ·rintro ⟨j, hj, rfl⟩
  exact ⟨j, List.mem_range.2 hj, rfl⟩
theorem pkSrc_ok (ac : ByteArray → List Ru) : ∀ (ts : List Tr), (∀ t, t ∈ ts → t.ok) → ∀ {p : Pkt}, p.ok → ∀ q, q ∈ pkSrc ac ts p → q.ok
 | [], _, _, hp, q, hq => by rw [show pkSrc ac [] _ = [_] from rfl, List.mem_singleton] at hq; rw [hq]; exact hp
 | t :: l, h, p, hp, q, hq => by
  have ht := h t (List.mem_cons_self ..)
  unfold pkSrc at hq
  split at hq
  ·rw [List.mem_singleton] at hq
   rw [hq]
   exact ⟨ht.o, hp.h1, hp.h2, hp.h3, hp.h4⟩
  ·split at hq
   ·rename_i h1 h2
    obtain ⟨j, hj, rfl⟩ := mem_pool.1 hq
    have h3 := ht.hi
    rcases ht.kinds with e | ⟨_, e1, e2⟩ | ⟨e, _⟩
    ·omega
    ·exact ⟨show t.lo + j < 4294967296 by omega, hp.h1, hp.h2, hp.h3, hp.h4⟩
    ·omega
   ·split at hq
    ·rename_i h1 h2 h3
     rw [List.mem_singleton] at hq
     rw [hq]
     rcases ht.kinds with e | ⟨e, _⟩ | ⟨e, _, _, e3⟩
     ·omega
     ·omega
     ·exact ⟨ht.o, hp.h1, hp.h2, e3, hp.h4⟩
    ·exact pkSrc_ok ac l (fun t ht => h t (List.mem_cons_of_mem _ ht)) hp q hq
theorem pkSrc_pos (ac : ByteArray → List Ru) : ∀ (ts : List Tr) (p : Pkt), 0 < (pkSrc ac ts p).length
 | [], _ => Nat.one_pos
 | t :: l, p => by
  unfold pkSrc
  split
  ·exact Nat.one_pos
  ·split
   ·unfold poolP; simp
   ·split
    ·exact Nat.one_pos
    ·exact pkSrc_pos ac l p
theorem src_enc (ac : ByteArray → List Ru) : ∀ (ts : List Tr), (∀ t, t ∈ ts → t.ok) → ∀ {p q : Pkt}, p.ok → q.ok → (srcF (ts.map (Tr.ent ac)) (ePQ p q) = true ↔ q ∈ pkSrc ac ts p)
 | [], _, p, q, hp, hq => by
  rw [show pkSrc ac [] p = [p] from rfl, List.mem_singleton]
  exact sam_all hp hq
 | t :: l, h, p, q, hp, hq => by
  have ht := h t (List.mem_cons_self ..)
  have ih := src_enc ac l (fun t ht => h t (List.mem_cons_of_mem _ ht)) hp hq
  show (if (t.ent ac).sapp (ePQ p q) = true then (t.ent ac).schg (ePQ p q) else srcF (l.map (Tr.ent ac)) (ePQ p q)) = true ↔ q ∈ pkSrc ac (t :: l) p
  unfold pkSrc
  rcases ht.kinds with e | ⟨e, e1, e2⟩ | ⟨e, e1, e2, e3⟩
  ·have E : t.ent ac = .stat t.i t.o := by unfold Tr.ent; rw [if_pos e]
   rw [E]
   have A : (Ent.stat t.i t.o).sapp (ePQ p q) = true ↔ t.i = p.src := by
    show rgF 0 false t.i t.i (ePQ p q) = true ↔ _
    rw [rg_enc hp hq (by omega)]
    show t.i ≤ p.src ∧ p.src ≤ t.i ↔ _
    omega
   by_cases ho : t.i = p.src
   ·rw [if_pos (A.2 ho), if_pos ⟨e, ho⟩, List.mem_singleton]
    show (samF (exW [0]) (ePQ p q) && (rgF 0 true t.o t.o (ePQ p q) && true)) = true ↔ _
    rw [Bool.and_true, Bool.and_eq_true, sam_enc hp hq, rg_enc hp hq (by omega)]
    show _ ∧ (t.o ≤ q.src ∧ q.src ≤ t.o) ↔ _
    constructor
    ·rintro ⟨h1, h2⟩
     have hx : ({ p with src := t.o } : Pkt).ok := ⟨ht.o, hp.h1, hp.h2, hp.h3, hp.h4⟩
     exact (pkt_ext hx hq (five_all ⟨(show t.o = q.src by omega), h1 1 (by omega) (by decide), h1 2 (by omega) (by decide), h1 3 (by omega) (by decide), h1 4 (by omega) (by decide)⟩)).symm
    ·rintro rfl
     refine ⟨five_all ⟨fun hw => absurd hw (by decide), fun _ => rfl, fun _ => rfl, fun _ => rfl, fun _ => rfl⟩, Nat.le_refl _, Nat.le_refl _⟩
   ·rw [if_neg (fun h => ho (A.1 h)), if_neg (fun h => ho h.2), if_neg (fun h => by have := h.1; omega), if_neg (fun h => by have := h.1; omega)]
    exact ih
  ·have E : t.ent ac = .pool t.nm.toList.isEmpty (ac t.nm) t.lo t.hi := by unfold Tr.ent; rw [if_neg (by omega), if_pos e]
   rw [E]
   have A : (Ent.pool t.nm.toList.isEmpty (ac t.nm) t.lo t.hi).sapp (ePQ p q) = pmB ac t.nm p := by
    show (if t.nm.toList.isEmpty = true then fun _ => true else aclF (ac t.nm)) (ePQ p q) = (t.nm.toList.isEmpty || aclB (ac t.nm) p)
    cases t.nm.toList.isEmpty
    ·rw [if_neg (by decide), acl_enc hp hq, Bool.false_or]
    ·rw [if_pos rfl, Bool.true_or]
   rw [A]
   by_cases hm : pmB ac t.nm p = true
   ·rw [if_pos hm, if_neg (fun h => by have := h.1; omega), if_pos ⟨e, hm⟩, mem_pool]
    show (samF (exW [0]) (ePQ p q) && (rgF 0 true t.lo t.hi (ePQ p q) && true)) = true ↔ _
    rw [Bool.and_true, Bool.and_eq_true, sam_enc hp hq, rg_enc hp hq (by omega)]
    show _ ∧ (t.lo ≤ q.src ∧ q.src ≤ t.hi) ↔ _
    have h4 := ht.hi
    constructor
    ·rintro ⟨h1, h2⟩
     have hx : ({ p with src := t.lo + (q.src - t.lo) } : Pkt).ok := ⟨show t.lo + (q.src - t.lo) < 4294967296 by omega, hp.h1, hp.h2, hp.h3, hp.h4⟩
     exact ⟨q.src - t.lo, by omega, (pkt_ext hx hq (five_all ⟨(show t.lo + (q.src - t.lo) = q.src by omega), h1 1 (by omega) (by decide), h1 2 (by omega) (by decide), h1 3 (by omega) (by decide), h1 4 (by omega) (by decide)⟩)).symm⟩
    ·rintro ⟨j, hj, rfl⟩
     refine ⟨five_all ⟨fun hw => absurd hw (by decide), fun _ => rfl, fun _ => rfl, fun _ => rfl, fun _ => rfl⟩, ?_, ?_⟩
     ·show t.lo ≤ t.lo + j; omega
     ·show t.lo + j ≤ t.hi; omega
   ·rw [if_neg hm, if_neg (fun h => by have := h.1; omega), if_neg (fun h => hm h.2), if_neg (fun h => by have := h.1; omega)]
    exact ih
  ·have E : t.ent ac = .fwd t.i t.pr.toNat t.ip.toNat t.o t.op.toNat := by unfold Tr.ent; rw [if_neg (by omega), if_neg (by omega)]
   rw [E]
   have u2 := u32_of (x := p.proto) ⟨hp.h2.1, by have := hp.h2.2; omega⟩
   have u4 := u32_of (x := p.sport) ⟨hp.h3.1, by have := hp.h3.2; omega⟩
   have v4 := u32_of (x := q.sport) ⟨hq.h3.1, by have := hq.h3.2; omega⟩
   have A : (Ent.fwd t.i t.pr.toNat t.ip.toNat t.o t.op.toNat).sapp (ePQ p q) = true ↔ t.i = p.src ∧ t.pr = p.proto ∧ t.ip = p.sport := by
    show (rgF 0 false t.i t.i (ePQ p q) && (rgF 2 false t.pr.toNat t.pr.toNat (ePQ p q) && (rgF 3 false t.ip.toNat t.ip.toNat (ePQ p q) && true))) = true ↔ _
    rw [Bool.and_true, Bool.and_eq_true, Bool.and_eq_true, rg_enc hp hq (by omega), rg_enc hp hq (by omega), rg_enc hp hq (by omega)]
    show (t.i ≤ p.src ∧ p.src ≤ t.i) ∧ (t.pr.toNat ≤ u32 p.proto ∧ u32 p.proto ≤ t.pr.toNat) ∧ (t.ip.toNat ≤ u32 p.sport ∧ u32 p.sport ≤ t.ip.toNat) ↔ _
    omega
   by_cases ho : t.i = p.src ∧ t.pr = p.proto ∧ t.ip = p.sport
   ·rw [if_pos (A.2 ho), if_neg (fun h => by have := h.1; omega), if_neg (fun h => by have := h.1; omega), if_pos ⟨e, ho⟩, List.mem_singleton]
    show (samF (exW [0, 3]) (ePQ p q) && (rgF 0 true t.o t.o (ePQ p q) && (rgF 3 true t.op.toNat t.op.toNat (ePQ p q) && true))) = true ↔ _
    rw [Bool.and_true, Bool.and_eq_true, Bool.and_eq_true, sam_enc hp hq, rg_enc hp hq (by omega), rg_enc hp hq (by omega)]
    show _ ∧ (t.o ≤ q.src ∧ q.src ≤ t.o) ∧ (t.op.toNat ≤ u32 q.sport ∧ u32 q.sport ≤ t.op.toNat) ↔ _
    have u5 := u32_of (x := t.op) ⟨e3.1, by have := e3.2; omega⟩
    constructor
    ·rintro ⟨h1, h2, h3⟩
     have hx : ({ p with src := t.o, sport := t.op } : Pkt).ok := ⟨ht.o, hp.h1, hp.h2, e3, hp.h4⟩
     exact (pkt_ext hx hq (five_all ⟨(show t.o = q.src by omega), h1 1 (by omega) (by decide), h1 2 (by omega) (by decide), (show u32 t.op = u32 q.sport by omega), h1 4 (by omega) (by decide)⟩)).symm
    ·intro hqq
     have w1 : q.src = t.o := by rw [hqq]
     have w2 : q.sport = t.op := by rw [hqq]
     refine ⟨five_all ⟨fun hw => absurd hw (by decide), fun _ => by rw [hqq]; rfl, fun _ => by rw [hqq]; rfl, fun hw => absurd hw (by decide), fun _ => by rw [hqq]; rfl⟩, by omega, by rw [w2]; omega⟩
   ·rw [if_neg (fun h => ho (A.1 h)), if_neg (fun h => by have := h.1; omega), if_neg (fun h => by have := h.1; omega), if_neg (fun h => ho h.2)]
    exact ih

end Go.Proofs.YtdgnbbmgcgfibaaGreatDoor

namespace Go.Proofs.YtdgnbbmgcgfibaaGreatDoor
open Go.RowKit

def nxV (v : Nat) : Bool := decide (12 ≤ v ∧ (v - 12) % 2 = 1)
def CurI (w1 : World) (sup : List Nat) (gk : Nat) (s : Value) (x : World) : Prop := ∃ i : Nat, i + gk = sup.length ∧ s = .int .i64 (i : Int) ∧ x = w1 ∧ ∀ j, j < i → nxV (sup.getD j 0) = false

set_option maxRecDepth 100000 in
set_option maxHeartbeats 2000000 in
theorem Current_ok {p : Nat} {M : Mgr} {L : Lay} (f : Int) {w : World} (R : Rep w p M L) (hn : M.n ≤ 256) (hs : ∀ v, v ∈ M.supM f → v < 256) (hl : (M.supM f).length ≤ 256) :
  Calls Tryz.prog 35 #[ptr p, .int .i64 f] w fun e w' => e = .returned (.bool (!(M.supM f).any nxV && M.valid f)) ∧ Kp No w w' := by
 have SU := Lib.hid (Support_ok f R hn)
 have VA := Lib.hid (fun (y : World) (ky : Kp No w y) => valid_as f (M.valid f) (R.no ky) rfl)
 have HS := Lib.hid hs
 have HL := Lib.hid hl
 clear R hn hs hl
 generalize M.supM f = sup at *
 generalize M.valid f = vb at *
 go_enter Tryz.func35, Tryz.ntmps35
 go_wp2_with fail
 refine SU.out.mono ?_
 rintro e w1 ⟨v1, rfl, r1, k1⟩
 obtain ⟨a1, c1, rfl⟩ := rowForm r1
 have VW := Lib.hid (VA.out w1 k1)
 have K1 := Lib.hid k1
 have R1 := Lib.hid r1
 clear VA SU k1 r1
 go_wp2_with fail
 have S3 : Hid (SrcAt w1 (.slice a1 sup.length c1) 1 sup.length (sup.map natV)) := Lib.hid (SrcAt.of_row R1.out)
 have hsl : (sup.length : Int) ≤ 256 := by have := HL.out; omega
 go_loopg [11] sup.length (fun gk s x => CurI w1 sup gk s x)
 case atStart => exact ⟨0, by omega, rfl, rfl, fun j hj => absurd hj (by omega)⟩
 case round =>
  obtain ⟨i, hi, rfl, rfl, hall⟩ := hrel
  have HALL := Lib.hid hall
  have HI := Lib.hid hi
  clear hall hi
  by_cases hlt : i < sup.length
  ·obtain ⟨g1, o1, c2, hv1, _, hcell⟩ := S3.out.cellAt (by omega)
   have hv2 : a1 = some ⟨g1, o1, none⟩ := by injection hv1
   subst hv2
   have hc := hcell i (natV (sup.getD i 0)) (by simp [hlt])
   unfold natV at hc
   have hmem : sup.getD i 0 ∈ sup := by rw [List.getD_eq_getElem?_getD, List.getElem?_eq_getElem hlt]; exact List.getElem_mem hlt
   have hvn := HS.out _ hmem
   have hlti : (i : Int) < sup.length := by omega
   have HN : Hid (∀ b, nxV (sup.getD i 0) = b → b = true → sup.any nxV = true) := Lib.hid (fun b h hb => List.any_eq_true.2 ⟨_, hmem, by rw [h, hb]⟩)
   obtain ⟨y, hy⟩ : ∃ y, y = sup.getD i 0 := ⟨_, rfl⟩
   have HY := Lib.hid hy
   rw [← hy] at hc hvn
   clear hcell hv1 hmem hy
   by_cases h12 : (y : Int) ≥ 12
   ·obtain ⟨z, hz⟩ : ∃ z : Nat, (y : Int) = z + 12 := ⟨y - 12, by omega⟩
    rw [hz] at hc
    have hz1 : (z : Int) < 256 := by omega
    have hq : ¬ (z : Int) + 12 < 12 := by omega
    by_cases hm : (z : Int) % 2 = 1
    ·have RET : Hid (sup.any nxV = true) := Lib.hid (HN.out true (by rw [← HY.out]; unfold nxV; exact decide_eq_true ⟨by omega, by omega⟩) rfl)
     clear h12 hz
     go_wp2_with fail
     go_ret
     exact ⟨by rw [RET.out]; rfl, K1.out⟩
    ·have NX : Hid (nxV y = false) := Lib.hid (by unfold nxV; exact decide_eq_false (fun h => hm (by omega)))
     clear h12 hz HN
     go_wp2_with fail
     go_roundg (sup.length - (i + 1))
     case measure => have := HI.out; omega
     case rel =>
      refine ⟨i + 1, by omega, by go_num, rfl, fun j hj => ?_⟩
      by_cases e : j = i
      ·rw [e, ← HY.out]; exact NX.out
      ·exact HALL.out j (by omega)
   ·have NX : Hid (nxV y = false) := Lib.hid (by unfold nxV; exact decide_eq_false (fun h => h12 (by omega)))
    clear HN
    go_wp2_with fail
    go_roundg (sup.length - (i + 1))
    case measure => have := HI.out; omega
    case rel =>
     refine ⟨i + 1, by omega, by go_num, rfl, fun j hj => ?_⟩
     by_cases e : j = i
     ·rw [e, ← HY.out]; exact NX.out
     ·exact HALL.out j (by omega)
  ·obtain rfl : i = sup.length := by have := HI.out; omega
   have ANY : Hid (sup.any nxV = false) := Lib.hid (List.any_eq_false.2 (fun v hv => by
    obtain ⟨j, hj, rfl⟩ := List.getElem_of_mem hv
    have := HALL.out j hj
    rw [List.getD_eq_getElem?_getD, List.getElem?_eq_getElem hj, Option.getD_some] at this
    rw [this]; decide))
   have hge : ¬ (sup.length : Int) < sup.length := by omega
   go_wp2_with fail
   refine VW.out.mono ?_
   rintro e w' ⟨rfl, rfl⟩
   go_wp2
   go_ret
   exact ⟨by rw [ANY.out]; rfl, K1.out⟩
end Go.Proofs.YtdgnbbmgcgfibaaGreatDoor

namespace Go.Proofs.YtdgnbbmgcgfibaaGreatDoor
open Go.RowKit

def curB (M : Mgr) (f : Int) : Bool := !(M.supM f).any nxV && M.valid f
end Go.Proofs.YtdgnbbmgcgfibaaGreatDoor

namespace Go.Proofs.YtdgnbbmgcgfibaaGreatDoor
open Go.RowKit

theorem supM_lt {M : Mgr} {f : Int} : ∀ v, v ∈ M.supM f → v < M.n := fun v hv => by
 unfold Mgr.supM at hv
 split at hv
 ·exact (Mgr.mem_supp.1 hv).1
 ·cases hv
theorem supM_len {M : Mgr} {f : Int} : (M.supM f).length ≤ M.n := by
 unfold Mgr.supM
 split
 ·unfold Mgr.supp
  exact Nat.le_trans (List.length_filter_le _ _) (by simp)
 ·simp
end Go.Proofs.YtdgnbbmgcgfibaaGreatDoor
