/-
 Walks: 'awake' of the package netverifylaw32 (printed by gen_kb.py).
-/
import Derived.Test.YtdgnbbmgcgfibaaGreatDoorTn
import Derived.Test.YtdgnbbmgcgfibaaGreatDoorKr
import Derived.Test.YtdgnbbmgcgfibaaGreatDoorKw
import Derived.Laws.Tables
namespace Go.Proofs.YtdgnbbmgcgfibaaGreatDoor
open Go.RowKit Go.Shelf

attribute [local go_sem] Oper.semAt_some

def TS (p hs nb : Nat) (cs : Array Value) (t : Tr) (y : World) : Prop := y.cell? ⟨hs, 0, none⟩ = some (ptr p) ∧ y.cell? ⟨nb, 0, none⟩ = some (.int .i64 t.k) ∧ y.cell? ⟨nb, 1, none⟩ = some (.int .u32 (t.i : Int)) ∧ y.cell? ⟨nb, 2, none⟩ = some (.int .u32 (t.o : Int)) ∧ y.cell? ⟨nb, 3, none⟩ = some (.int .i64 t.pr) ∧ y.cell? ⟨nb, 4, none⟩ = some (.int .i64 t.ip) ∧ y.cell? ⟨nb, 5, none⟩ = some (.int .i64 t.op) ∧ y.cell? ⟨nb, 6, none⟩ = some (.string t.nm) ∧ y.cell? ⟨nb, 7, none⟩ = some (.int .u32 (t.lo : Int)) ∧ y.cell? ⟨nb, 8, none⟩ = some (.int .u32 (t.hi : Int)) ∧ y.heap[hs + 1]? = some (.cells cs 41 (0, 0))
section
variable {W0 W y y' : World} {p hs nb fb Bs b : Nat} {L1 Ly L' : Lay} {r : Int} {cs : Array Value}
theorem DK.T {t : Tr} (h : DK W0 W p L1 hs nb fb Bs b r t.v cs y Ly) : TS p hs nb cs t y := by
 refine ⟨by rw [cell_of_row _ _ _ _ _ _ h.m]; rfl, ?_, ?_, ?_, ?_, ?_, ?_, ?_, ?_, ?_, h.q⟩ <;> (rw [cell_of_row _ _ _ _ _ _ h.t]; rfl)
theorem DK.T2 {t : Tr} (h : DK W0 W p L1 hs nb fb Bs b r t.v cs y Ly) {v : Value} : TS p hs nb cs t (y.setCell ⟨fb, 0, none⟩ v) := by
 have n1 : hs ≠ fb := fun e => by have := h.m; rw [e, h.f] at this; injection this with this; injection this with _ this; exact absurd this (by decide)
 have n2 : nb ≠ fb := fun e => by have := h.t; rw [e, h.f] at this; injection this with this; injection this with _ this; exact absurd this (by decide)
 have n4 : hs + 1 ≠ fb := fun e => by have := h.q; rw [e, h.f] at this; injection this with this; injection this with _ this; exact absurd this (by decide)
 have k1 : ∀ z, (y.setCell ⟨fb, 0, none⟩ v).cell? ⟨hs, z, none⟩ = y.cell? ⟨hs, z, none⟩ := fun z => World.cell?_of_block (Below.heap_setCell _ _ _ _ n1)
 have k2 : ∀ z, (y.setCell ⟨fb, 0, none⟩ v).cell? ⟨nb, z, none⟩ = y.cell? ⟨nb, z, none⟩ := fun z => World.cell?_of_block (Below.heap_setCell _ _ _ _ n2)
 have k3 : (y.setCell ⟨fb, 0, none⟩ v).heap[hs + 1]? = y.heap[hs + 1]? := Below.heap_setCell _ _ _ _ n4
 have := h.T
 unfold TS at this ⊢
 simp only [k1, k2, k3]
 exact this
end
def SC : Nat → Nat
 | 0 => 0
 | j + 1 => SC j + 220 * SB (j + 1) + 700000000
theorem SC_succ (j : Nat) : SC (j + 1) = SC j + 220 * SB (j + 1) + 700000000 := rfl
theorem SC_le {j : Nat} (h : j < 4) : SC j ≤ 9000000000 ∧ SB (j + 1) ≤ 1107296256 := by
 rcases (show j = 0 ∨ j = 1 ∨ j = 2 ∨ j = 3 by omega) with rfl | rfl | rfl | rfl <;> decide
theorem SC_all {j : Nat} (h : j ≤ 4) : SC j ≤ 259000000000 := by
 rcases (show j = 0 ∨ j = 1 ∨ j = 2 ∨ j = 3 ∨ j = 4 by omega) with rfl | rfl | rfl | rfl | rfl <;> decide
def SrcI (w W0 : World) (p c hs fb : Nat) (cs : Array Value) (L L1 : Lay) (B : List (Int × Bfn)) (es : List Ent) (pre : List Nat) (W : World) : Prop :=
 ∃ r M' L', Hf w p L 220 (c + 20000000 + SC pre.length) W M' L' ((r, srcF (es.drop (es.length - pre.length))) :: B) ∧ (Fresh (L1.at p) (L'.at p) W0 ∧ W0.heap.size ≤ W.heap.size) ∧ W.heap[hs]? = some (.cells #[ptr p] 52 (0, 0)) ∧ W.heap[hs + 1]? = some (.cells cs 41 (0, 0)) ∧ W.heap[fb]? = some (.cells #[.int .i64 r] 54 (0, 0))
theorem acG_le : ∀ {l : List (ByteArray × List Ru)} {s : ByteArray}, (∀ x, x ∈ l → x.2.length ≤ 4) → (acG l s).length ≤ 4
 | [], _, _ => by simp [acG]
 | x :: l, s, h => by
  unfold acG
  split
  ·exact h x (List.mem_cons_self ..)
  ·exact acG_le (fun y hy => h y (List.mem_cons_of_mem _ hy))
set_option maxRecDepth 1000000 in
set_option maxHeartbeats 16000000 in
theorem Source_ok {p c : Nat} {M : Mgr} {L : Lay} {B : List (Int × Bfn)} (cs : Array Value) (hcs : cs.size = 25) (ts : List Tr) (acs : List (ByteArray × List Ru)) (hle : ∀ x, x ∈ acs → x.2.length ≤ 4) (hro : ∀ x, x ∈ acs → ∀ y, y ∈ x.2 → y.ok) (hts : ts.length ≤ 4) (hok : ∀ t, t ∈ ts → t.ok) {w : World} (R : Rep w p M L) (q : Qk 220 c M B) (g : Gl w) (ho : ¬ L.at p 0) (hn : NatAt w p L cs ts) (han : AcAt w p L cs acs) (hc : c ≤ 200000000000) :
  Calls Tryz.prog 10 #[ptr p, .agg cs] w (OpQ p 220 (c + 260000000000) L w (srcF (ts.map (Tr.ent (acG acs)))) B) := by
 have hac : ∀ t, t ∈ ts → (acG acs t.nm).length ≤ 4 := fun t _ => acG_le hle
 have HAN := Lib.hid han
 have HCS := Lib.hid hcs
 clear han hcs
 have H := Lib.hid (Hf.start R q g ho)
 have RLT := Lib.hid R.lt
 have GLT := Lib.hid g.lt
 have HC := Lib.hid hc
 obtain ⟨ao, cp, hcs6, hcp1, hcp2, hcell⟩ := hn
 have HC6 := Lib.hid hcs6
 have HCL := Lib.hid hcell
 have hll : (ts.length : Int) ≤ 9223372036854775807 := by omega
 have BK := Lib.hid (fun (z : World) => BackT_ok ao ts.length cp z)
 clear R q g hcs6 hcell
 refine callsIn_wide.1 (callsIn_of_wp_marks Tryz.func10 rfl trivial ?_ rfl (n := 3))
 refine wpIn_wide.2 ?_
 simp only [Tryz.ntmps10, List.size_toArray, List.length_cons, List.length_nil, Nat.reduceAdd, Nat.reduceSub, Array.replicate_succ, Array.replicate_zero, List.push_toArray, List.append_toArray, List.nil_append, List.cons_append]
 go_upto_region 1 with fail
 have kX : Kp No w ((w.alloc (.cells #[ptr p] 52)).alloc (.cells cs 41)) := (Kp.alloc _).trans_no (Kp.alloc _)
 have x2 : ((w.alloc (.cells #[ptr p] 52)).alloc (.cells cs 41)).heap[w.heap.size]? = some (.cells #[ptr p] 52 (0, 0)) := by
  rw [Below.heap_alloc _ _ _ (by simp)]; exact heap_alloc_new _ _
 have x3 : ((w.alloc (.cells #[ptr p] 52)).alloc (.cells cs 41)).heap[w.heap.size + 1]? = some (.cells cs 41 (0, 0)) := by
  have := heap_alloc_new (w.alloc (.cells #[ptr p] 52)) (.cells cs 41)
  simpa using this
 have xz : ((w.alloc (.cells #[ptr p] 52)).alloc (.cells cs 41)).heap.size = w.heap.size + 2 := by simp
 generalize ((w.alloc (.cells #[ptr p] 52)).alloc (.cells cs 41)) = X at *
 have H1 := Lib.hid (H.out.no kX)
 have KX := Lib.hid kX
 have XZ := Lib.hid xz
 have ID := Lib.hid (TId_ok H1.out.rep H1.out.qk H1.out.gl H1.out.off (by have := HC.out; omega))
 have X2 := Lib.hid x2
 have X3 := Lib.hid x3
 have c2 : X.cell? ⟨w.heap.size, 0, none⟩ = some (ptr p) := by rw [cell_of_row _ _ _ _ _ _ x2]; rfl
 clear x2 x3 kX xz
 go_wp2_with fail
 refine ID.out.mono ?_
 intro e w1 o
 obtain ⟨r0, M1, L1, rfl, _, h1, k1, f1, _⟩ := H1.out.stepK o
 have l2 : ¬ L.at p w.heap.size := fun h => by have := RLT.out _ h; omega
 have l3 : ¬ L.at p (w.heap.size + 1) := fun h => by have := RLT.out _ h; omega
 have y2 : w1.heap[w.heap.size]? = some (.cells #[ptr p] 52 (0, 0)) := (k1.block _ (heap_lt X2.out) l2).trans X2.out
 have y3 : w1.heap[w.heap.size + 1]? = some (.cells cs 41 (0, 0)) := (k1.block _ (heap_lt X3.out) l3).trans X3.out
 have s1 := k1.size
 have HF1 := Lib.hid h1
 have F1 := Lib.hid f1
 have K1 := Lib.hid k1
 have Y2 := Lib.hid y2
 have Y3 := Lib.hid y3
 clear o h1 k1 f1 c2 ID l2 l3 y2
 have z3 : (w1.alloc (.cells #[.int .i64 r0] 54)).cell? ⟨w.heap.size + 1, 6, none⟩ = some (.slice ao ts.length cp) := by
  rw [World.cell?_alloc_lt _ _ _ (by have := heap_lt y3; exact this), cell_of_row _ _ _ _ _ _ y3]
  exact HC6.out
 clear y3
 go_wp2_with fail
 refine (BK.out _).mono ?_
 rintro e w2 ⟨rfl, rfl⟩
 clear z3
 go_wp2_with fail
 obtain ⟨es, hes⟩ : ∃ es, es = ts.map (Tr.ent (acG acs)) := ⟨_, rfl⟩
 have ESL : Hid (es.length = ts.length) := Lib.hid (by rw [hes, List.length_map])
 have ES := Lib.hid hes
 have W0E : Hid (∃ W0, W0 = (w1.alloc (.cells #[.int .i64 r0] 54)).alloc (.cells #[.slice ao ts.length cp] 26)) := Lib.hid ⟨_, rfl⟩
 have kW : Kp No w1 ((w1.alloc (.cells #[.int .i64 r0] 54)).alloc (.cells #[.slice ao ts.length cp] 26)) := (Kp.alloc _).trans_no (Kp.alloc _)
 have v2 : ((w1.alloc (.cells #[.int .i64 r0] 54)).alloc (.cells #[.slice ao ts.length cp] 26)).heap[w1.heap.size]? = some (.cells #[.int .i64 r0] 54 (0, 0)) := by
  rw [Below.heap_alloc _ _ _ (by simp)]; exact heap_alloc_new _ _
 have v3 : ((w1.alloc (.cells #[.int .i64 r0] 54)).alloc (.cells #[.slice ao ts.length cp] 26)).heap[w1.heap.size + 1]? = some (.cells #[.slice ao ts.length cp] 26 (0, 0)) := by
  have := heap_alloc_new (w1.alloc (.cells #[.int .i64 r0] 54)) (.cells #[.slice ao ts.length cp] 26)
  simpa using this
 have vz : ((w1.alloc (.cells #[.int .i64 r0] 54)).alloc (.cells #[.slice ao ts.length cp] 26)).heap.size = w1.heap.size + 2 := by simp
 generalize ((w1.alloc (.cells #[.int .i64 r0] 54)).alloc (.cells #[.slice ao ts.length cp] 26)) = W0 at *
 have KW := Lib.hid kW
 have kw0 : w.heap.size + 2 ≤ w1.heap.size := by have := XZ.out; omega
 obtain ⟨b, ob, hao, ⟨hbf, hbw⟩, hbL, hcells⟩ : ∃ b ob, (ao = some ⟨b, ob, none⟩ ∨ ts.length = 0) ∧ (b < w1.heap.size ∧ b < W0.heap.size) ∧ (∀ L' : Lay, Fresh (L1.at p) (L'.at p) W0 → ¬ L'.at p b) ∧ ∀ j t, ts[j]? = some t → TrAt W0 b (ob + j * 9) t := by
  rcases HCL.out with h0 | ⟨gn, og, e, hg, hnl, hc'⟩
  ·refine ⟨w.heap.size, 0, .inr h0, ⟨by omega, by omega⟩, fun L' f h => ?_, fun j t hj => ?_⟩
   ·rcases f _ h with h | h
    ·rcases F1.out _ h with h | h
     ·have := RLT.out _ h; omega
     ·have := XZ.out; omega
    ·omega
   ·have := (List.getElem?_eq_some_iff.1 hj).1
    omega
  ·refine ⟨gn, og, .inl e, ⟨by omega, by omega⟩, fun L' f h => ?_, fun j t hj => ?_⟩
   ·rcases f _ h with h | h
    ·rcases F1.out _ h with h | h
     ·exact hnl h
     ·have := XZ.out; omega
    ·omega
   ·have kk : ∀ z, W0.cell? ⟨gn, z, none⟩ = w.cell? ⟨gn, z, none⟩ := fun z => by
     rw [KW.out.cell (a := ⟨gn, z, none⟩) (by show gn < w1.heap.size; omega) (fun h => h), K1.out.cell (a := ⟨gn, z, none⟩) (by show gn < X.heap.size; have := XZ.out; omega) hnl, KX.out.cell (a := ⟨gn, z, none⟩) hg (fun h => h)]
    have := hc' j t hj
    unfold TrAt at this ⊢
    simp only [kk]
    exact this
 have CT0 : Hid (∀ L' : Lay, Fresh (L1.at p) (L'.at p) W0 → ¬ L'.at p w.heap.size ∧ ¬ L'.at p w1.heap.size ∧ ¬ L'.at p (w1.heap.size + 1) ∧ ¬ L'.at p b ∧ ¬ L'.at p (w.heap.size + 1)) := Lib.hid (fun L' f => by
  refine ⟨fun h => ?_, fun h => ?_, fun h => ?_, hbL L' f, fun h => ?_⟩
  ·rcases f _ h with h | h
   ·rcases F1.out _ h with h | h
    ·have := RLT.out _ h; omega
    ·have := XZ.out; omega
   ·omega
  ·rcases f _ h with h | h
   ·have := HF1.out.rep.lt _ h; omega
   ·omega
  ·rcases f _ h with h | h
   ·have := HF1.out.rep.lt _ h; omega
   ·omega
  ·rcases f _ h with h | h
   ·rcases F1.out _ h with h | h
    ·have := RLT.out _ h; omega
    ·have := XZ.out; omega
   ·omega)
 have HST := backT_hands 2 (by omega) (w1.heap.size + 1) b ob cp ts.length ao hao (by omega) (fun j => (ts.getD j Tr.z).k) (fun j => (ts.getD j Tr.z).i) (fun j => (ts.getD j Tr.z).o) (fun j => (ts.getD j Tr.z).pr) (fun j => (ts.getD j Tr.z).ip) (fun j => (ts.getD j Tr.z).op) (fun j => (ts.getD j Tr.z).nm) (fun j => (ts.getD j Tr.z).lo) (fun j => (ts.getD j Tr.z).hi) W0 (by omega) hbw (by rw [cell_of_row _ _ _ _ _ _ v3]; rfl) (fun j hj => by
  have := hcells j ts[j] (List.getElem?_eq_getElem hj)
  unfold TrAt at this
  simp only [List.getD_eq_getElem?_getD, List.getElem?_eq_getElem hj, Option.getD_some]
  exact this)
 have w02 : W0.heap[w.heap.size]? = some (.cells #[ptr p] 52 (0, 0)) := (KW.out.block _ (by omega) (fun h => h)).trans Y2.out
 have w03 : W0.heap[w.heap.size + 1]? = some (.cells cs 41 (0, 0)) := (KW.out.block _ (by omega) (fun h => h)).trans Y3.out
 refine (wpIn_wide (n := 3)).1 (range_calls rfl (by omega) (gf := 58) (lb := #[.pointer (some ⟨w1.heap.size + 1, 0, none⟩)]) rfl trivial (enters_of Tryz.func58 (by kernel_rfl) rfl)
  HST (fun _ => rfl) BkR.trans (BkR.put (by omega) hbw)
  (SrcI w W0 p c w.heap.size w1.heap.size cs L L1 B es)
  (fun pre W o ⟨r, M', L', h, fr, b1, b2, b3⟩ => ⟨r, M', L', h.no (Kp.alloc o), ⟨fr.1, by simp; omega⟩, by rw [Below.heap_alloc _ _ _ (heap_lt b1)]; exact b1, by rw [Below.heap_alloc _ _ _ (heap_lt b2)]; exact b2, by rw [Below.heap_alloc _ _ _ (heap_lt b3)]; exact b3⟩)
  (fun pre W k o o' ⟨r, M', L', h, fr, b1, b2, b3⟩ hk hl2 hr => ⟨r, M', L', h.put (by omega) hl2 hr o', ⟨fr.1, by simp; omega⟩, by rw [World.putObj_heap_other (by omega)]; exact b1, by rw [World.putObj_heap_other (by omega)]; exact b2, by rw [World.putObj_heap_other (by omega)]; exact b3⟩)
  ⟨r0, M1, L1, by
   have e : es.drop (es.length - ([] : List Nat).length) = [] := by simp
   rw [e]
   exact (HF1.out.no KW.out).mono (by simp), ⟨fun x hx => .inl hx, Nat.le_refl _⟩, w02, w03, v2⟩
  (fun x a' W => ∃ nb, a' = { tmps := #[ptr p, .agg cs, .pointer (some ⟨w.heap.size, 0, none⟩), .pointer (some ⟨w.heap.size + 1, 0, none⟩), .int .i64 0, .pointer (some ⟨w1.heap.size, 0, none⟩), undef, .pointer (some ⟨nb, 0, none⟩), undef, undef, undef, undef, ptr p, .int .i64 r0, .pointer (some ⟨w.heap.size + 1, 6, none⟩), .slice ao ts.length cp, .func (.func 58) #[] #[.pointer (some ⟨w1.heap.size + 1, 0, none⟩)], .int .i64 (x : Int), .agg ((ts.getD x Tr.z).v), undef, undef, undef, undef, undef, undef, undef, undef, undef, undef, undef, undef, undef, undef, undef, undef, undef, undef, undef, undef, undef, undef, undef, undef, undef, undef, undef, undef, undef, undef, undef, undef, undef, undef, undef, undef, undef, undef, undef, undef, undef, undef, undef, undef, undef, undef, undef, undef, undef, undef, undef, undef, undef, undef, undef, undef, undef, undef, undef, undef, undef, undef, undef, undef, undef, undef, undef, undef, undef, undef, undef, undef, undef, undef, undef, undef, undef, undef, undef, undef, undef, undef, undef, undef, undef], defers := [] } ∧ W.heap[nb]? = some (.cells (ts.getD x Tr.z).v 66 (0, 0)))
  (fun x a' W k o o' ⟨nb, e, h⟩ hk hr => ⟨nb, e, by rw [World.putObj_heap_other (fun q => by rw [q, hk] at h; cases h; cases hr)]; exact h⟩)
  ?assign ?body ?done)
 case assign =>
  intro k pre x W K hI _ hK
  have HK := Lib.hid hK
  have HI := Lib.hid hI
  clear hK hI
  gi_wp2
  refine HK.out _ _ (.no (Kp.alloc _)) ⟨?_, ?_⟩ ?_ ⟨W.heap.size, rfl, heap_alloc_new _ _⟩
  ·obtain ⟨r, M', L', h, fr, b1, b2, b3⟩ := HI.out
   exact Below.heap_alloc _ _ _ (by omega)
  ·obtain ⟨r, M', L', h, fr, b1, b2, b3⟩ := HI.out
   exact Below.heap_alloc _ _ _ (by omega)
  ·obtain ⟨r, M', L', h, fr, b1, b2, b3⟩ := HI.out
   exact ⟨r, M', L', h.no (Kp.alloc _), ⟨fr.1, by simp; omega⟩, by rw [Below.heap_alloc _ _ _ (heap_lt b1)]; exact b1, by rw [Below.heap_alloc _ _ _ (heap_lt b2)]; exact b2, by rw [Below.heap_alloc _ _ _ (heap_lt b3)]; exact b3⟩
 case body =>
  rintro kl pre x a' y0 ⟨r, M', L', h, ⟨fr, hsW⟩, b1, b2, b3⟩ hp ⟨nb, rfl, hnb⟩
  obtain ⟨hpl, rfl⟩ := bkN_at hp
  obtain ⟨i, hi⟩ : ∃ i, i = ts.length - 1 - pre.length := ⟨_, rfl⟩
  have hil : i < ts.length := by omega
  have HPL : Hid (pre.length < 4) := Lib.hid (by omega)
  have hil2 : i < es.length := by have := ESL.out; omega
  have eE : es[i] = Tr.ent (acG acs) ts[i] := by simp [hes]
  have OKT := Lib.hid (hok ts[i] (List.getElem_mem hil))
  have OKE : Hid (∀ e, e ∈ es.drop i → e.ok) := Lib.hid (fun e he => by
   have := List.mem_of_mem_drop he
   rw [hes] at this
   obtain ⟨t, ht, rfl⟩ := List.mem_map.1 this
   exact Tr.ent_ok (hok t ht) (hac t ht))
  have DROP : Hid (es.drop i = es[i] :: es.drop (es.length - pre.length)) := Lib.hid (by
   rw [show es.length - pre.length = i + 1 by have := ESL.out; omega, List.drop_eq_getElem_cons hil2])
  have DR1 : Hid (es.length - (pre ++ [ts.length - 1 - pre.length]).length = i) := Lib.hid (by have := ESL.out; simp; omega)
  have GD : ts.getD (ts.length - 1 - pre.length) Tr.z = ts[i] := by rw [← hi, List.getD_eq_getElem?_getD, List.getElem?_eq_getElem hil]; rfl
  rw [GD] at hnb ⊢
  have DLEN : Hid ((es.drop i).length ≤ 4) := Lib.hid (by rw [List.length_drop]; have := ESL.out; omega)
  rw [eE] at DROP
  generalize ts[i] = t at *
  have CT : Hid (DC W0 y0 p L1 w.heap.size w1.heap.size (w1.heap.size + 1) b) := Lib.hid ⟨hsW, by omega, by omega, CT0.out⟩
  have D0 : Hid (DK W0 y0 p L1 w.heap.size nb w1.heap.size (w1.heap.size + 1) b r t.v cs y0 L') := Lib.hid ⟨b2, b1, hnb, b3, rfl, rfl, fr, Nat.le_refl _, KeepsRec.refl _⟩
  have G0 := Lib.hid h
  have BR3 := Lib.hid b2
  obtain ⟨u2, v0, v1, v2', v3', v4, v5, _⟩ := D0.out.T
  clear h fr b1 b2 b3 hnb GD eE hp
  have TE0 := OKT.out.r
  have HBF := Lib.hid hbf
  have HWF := Lib.hid kw0
  have HSC : Hid ((SC pre.length ≤ 9000000000 ∧ SB (pre.length + 1) ≤ 1107296256) ∧ c ≤ 200000000000) := Lib.hid ⟨SC_le HPL.out, HC.out⟩
  have DL2 : Hid ((es.drop i).length = pre.length + 1) := Lib.hid (by rw [List.length_drop]; have := ESL.out; omega)
  rcases TE0 with e1 | ⟨e1, _⟩ | ⟨e1, h1, h2, h3⟩
  ·as_aux_lemma =>
    have TE : Hid (t.ent (acG acs) = .stat t.i t.o) := Lib.hid (by unfold Tr.ent; rw [if_pos e1])
    have EQ : Hid (∀ a, (if (rgF 0 false t.i t.i) a = true then (allF [samF (exW [0]), rgF 0 true t.o t.o]) a else srcF (es.drop (es.length - pre.length)) a) = srcF (es.drop i) a) := Lib.hid (fun a => by rw [DROP.out, TE.out]; rfl)
    have PSI : Hid (PSt 220 (fun a => if (rgF 0 false t.i t.i) a = true then (allF [samF (exW [0]), rgF 0 true t.o t.o]) a else srcF (es.drop (es.length - pre.length)) a) (SB (pre.length + 1))) := Lib.hid (((src_st (es.drop i) OKE.out).mono (Nat.le_of_eq (congrArg SB DL2.out))).congr EQ.out)
    rw [e1] at v0
    gi_wp2
    clear u2 v0 v1 v2' v3' v4 v5
    have G1 := Lib.hid (G0.out.no (Kp.drew (w := y0)))
    have D1 := Lib.hid (D0.out.no CT.out (Kp.drew (w := y0)))
    refine region_round (S := TS p w.heap.size nb cs t) (by kernel_rfl) (by kernel_rfl) (fun ⟨_, _, h⟩ => h) D1.out.T (fun hS => ?_)
    generalize y0.drew = y1 at *
    refine tk 0 hS ?_
    refine tk 1 hS ?_
    refine tk 4 hS ?_
    refine tk 5 hS ?_
    refine tk 6 hS ?_
    refine op1 2 (fun K hK => ?_)
    go_simp
    have G2 := Lib.hid (G1.out.no (Kp.alloc (w := y1) (.cells #[.int .i64 0] 3)))
    have D2 := Lib.hid (D1.out.no CT.out (Kp.alloc (w := y1) (.cells #[.int .i64 0] 3)))
    have SRC2 := Lib.hid (src_lit y1 [.int .i64 0] 3)
    have NL2 : Hid (∀ g o m k, Value.slice (some ⟨y1.heap.size, 0, none⟩) 1 1 = .slice (some ⟨g, o, none⟩) m k → ¬ (L').at p g) := Lib.hid (fun g o m k e h => by cases e; have := G1.out.rep.lt _ h; omega)
    refine hK.out _ _ D2.out.T (fun hHeld => ?_)
    clear hK K hS
    have hS := hHeld
    clear hHeld
    try simp only [Act.put, List.setIfInBounds_toArray, List.set_cons_zero, List.set_cons_succ]
    generalize hz2 : y1.heap.size = z2 at *
    generalize y1.alloc (.cells #[.int .i64 0] 3) = y2 at *
    clear hz2
    have CC3 := Lib.hid (except_ok [0] (by simp) G2.out.rep G2.out.qk G2.out.gl G2.out.off (dv := .slice (some ⟨z2, 0, none⟩) 1 1) SRC2.out (by (try simp only [List.length_cons, List.length_nil, Nat.zero_add, Nat.reduceAdd]); have := HC.out; have := HSC.out; omega))
    refine op1 3 (fun K hK => ?_)
    go_simp
    go_at_call 28
    refine CC3.out.mono ?_
    intro e y3 o
    obtain ⟨r3, M3, L3, rfl, _, g, kk, ff, kr⟩ := G2.out.stepK o
    have D3 := Lib.hid (D2.out.step CT.out G2.out.rep kk ff kr)
    have G3 := Lib.hid g
    clear o g kk ff kr CC3
    go_wp2_with fail
    refine hK.out _ _ D3.out.T (fun hHeld => ?_)
    clear hK K hS
    have hS := hHeld
    clear hHeld
    try simp only [Act.put, List.setIfInBounds_toArray, List.set_cons_zero, List.set_cons_succ]
    have CC4 := Lib.hid (value_ok 0 (by omega) true t.o OKT.out.o G3.out.rep G3.out.qk G3.out.gl G3.out.off (by (try simp only [List.length_cons, List.length_nil, Nat.zero_add, Nat.reduceAdd]); have := HC.out; have := HSC.out; omega))
    refine op1 7 (fun K hK => ?_)
    go_simp
    go_at_call 29
    refine CC4.out.mono ?_
    intro e y4 o
    obtain ⟨r4, M4, L4, rfl, _, g, kk, ff, kr⟩ := G3.out.stepK o
    have D4 := Lib.hid (D3.out.step CT.out G3.out.rep kk ff kr)
    have G4 := Lib.hid g
    clear o g kk ff kr CC4
    go_wp2_with fail
    refine hK.out _ _ D4.out.T (fun hHeld => ?_)
    clear hK K hS
    have hS := hHeld
    clear hHeld
    try simp only [Act.put, List.setIfInBounds_toArray, List.set_cons_zero, List.set_cons_succ]
    refine op1 8 (fun K hK => ?_)
    go_simp
    have G5 := Lib.hid (G4.out.no (Kp.alloc (w := y4) (.cells #[.int .i64 r3, .int .i64 r4] 54)))
    have D5 := Lib.hid (D4.out.no CT.out (Kp.alloc (w := y4) (.cells #[.int .i64 r3, .int .i64 r4] 54)))
    have SRC5 := Lib.hid (src_lit y4 [.int .i64 r3, .int .i64 r4] 54)
    have NL5 : Hid (∀ g o m k, Value.slice (some ⟨y4.heap.size, 0, none⟩) 2 2 = .slice (some ⟨g, o, none⟩) m k → ¬ (L4).at p g) := Lib.hid (fun g o m k e h => by cases e; have := G4.out.rep.lt _ h; omega)
    refine hK.out _ _ D5.out.T (fun hHeld => ?_)
    clear hK K hS
    have hS := hHeld
    clear hHeld
    try simp only [Act.put, List.setIfInBounds_toArray, List.set_cons_zero, List.set_cons_succ]
    generalize hz5 : y4.heap.size = z5 at *
    generalize y4.alloc (.cells #[.int .i64 r3, .int .i64 r4] 54) = y5 at *
    clear hz5
    have MM5 : Hid (∀ x, x ∈ ([(r3, samF (exW [0])), (r4, rgF 0 true t.o t.o)] : List (Int × Bfn)) → x ∈ ((r4, rgF 0 true t.o t.o) :: (r3, samF (exW [0])) :: (r, srcF (es.drop (es.length - pre.length))) :: B)) := Lib.hid (fun x hx => by
      rcases List.mem_cons.1 hx with rfl | hx
      ·exact (List.Mem.tail _ (List.Mem.head _))
      rcases List.mem_cons.1 hx with rfl | hx
      ·exact (List.Mem.head _)
      cases hx)
    have PP5 : Hid (∀ j, PSt 220 (allF (([(r3, samF (exW [0])), (r4, rgF 0 true t.o t.o)] : List (Int × Bfn)).drop j |>.map Prod.snd)) 729) := Lib.hid (fun j => by
     rw [List.map_drop]
     exact allF_drop (by simp) (fun F hF => by
       rcases List.mem_cons.1 hF with rfl | hF
       ·show PSt 220 (samF (exW [0])) 9
        exact (samF_st _).mono (show 4 ≤ 9 by decide)
       rcases List.mem_cons.1 hF with rfl | hF
       ·show PSt 220 (rgF 0 true t.o t.o) 9
        exact rgF_nine (by decide) _ _
       cases hF) j)
    have CC6 := Lib.hid (all_ok (s := 729) [(r3, samF (exW [0])), (r4, rgF 0 true t.o t.o)] (by simp) (by simp) MM5.out G5.out.rep G5.out.qk G5.out.gl G5.out.off (dv := .slice (some ⟨z5, 0, none⟩) 2 2) SRC5.out NL5.out PP5.out (by (try simp only [List.length_cons, List.length_nil, Nat.zero_add, Nat.reduceAdd]); have := HC.out; have := HSC.out; omega))
    refine op1 9 (fun K hK => ?_)
    go_simp
    go_at_call 27
    refine CC6.out.mono ?_
    intro e y6 o
    obtain ⟨r6, M6, L6, rfl, _, g, kk, ff, kr⟩ := G5.out.stepK o
    have D6 := Lib.hid (D5.out.step CT.out G5.out.rep kk ff kr)
    have G6 := Lib.hid g
    clear o g kk ff kr CC6
    go_wp2_with fail
    refine hK.out _ _ D6.out.T (fun hHeld => ?_)
    clear hK K hS
    have hS := hHeld
    clear hHeld
    try simp only [Act.put, List.setIfInBounds_toArray, List.set_cons_zero, List.set_cons_succ]
    refine tk 10 hS ?_
    refine wpAnyH_done (by kernel_rfl) ?_ _
    clear hS
    gi_wp2
    have G7 := Lib.hid (G6.out.no (Kp.drew (w := y6)))
    have D7 := Lib.hid (D6.out.no CT.out (Kp.drew (w := y6)))
    refine region_round (S := TS p w.heap.size nb cs t) (by kernel_rfl) (by kernel_rfl) (fun ⟨_, _, h⟩ => h) D7.out.T (fun hS => ?_)
    generalize y6.drew = y7 at *
    refine tk 0 hS ?_
    refine tk 1 hS ?_
    refine tk 2 hS ?_
    refine tk 3 hS ?_
    refine tk 5 hS ?_
    refine wpAnyH_ready (rs := [4, 6]) (by kernel_rfl) (by simp) ?_
    refine AllReadyH.cons rfl (fun K hK => ?_) (AllReadyH.cons rfl (fun K hK => ?_) AllReadyH.nil)
    ·as_aux_lemma =>
      have CC8 := Lib.hid (value_ok 0 (by omega) false t.i OKT.out.i G7.out.rep G7.out.qk G7.out.gl G7.out.off (by (try simp only [List.length_cons, List.length_nil, Nat.zero_add, Nat.reduceAdd]); have := HC.out; have := HSC.out; omega))
      go_simp
      go_at_call 29
      refine CC8.out.mono ?_
      intro e y8 o
      obtain ⟨r8, M8, L8, rfl, _, g, kk, ff, kr⟩ := G7.out.stepK o
      have D8 := Lib.hid (D7.out.step CT.out G7.out.rep kk ff kr)
      have G8 := Lib.hid g
      clear o g kk ff kr CC8
      go_wp2_with fail
      refine hK.out _ _ D8.out.T (fun hHeld => ?_)
      clear hK K hS
      have hS := hHeld
      clear hHeld
      try simp only [Act.put, List.setIfInBounds_toArray, List.set_cons_zero, List.set_cons_succ]
      refine op1 6 (fun K hK => ?_)
      have lc := D8.out.c
      go_simp
      clear lc
      refine hK.out _ _ D8.out.T (fun hHeld => ?_)
      clear hK K hS
      have hS := hHeld
      clear hHeld
      try simp only [Act.put, List.setIfInBounds_toArray, List.set_cons_zero, List.set_cons_succ]
      have CC9 := Lib.hid (IteQ G8.out.rep G8.out.qk (List.Mem.head _) (List.Mem.tail _ (List.Mem.head _)) (List.Mem.tail _ (List.Mem.tail _ (List.Mem.tail _ (List.Mem.tail _ (List.Mem.head _))))) PSI.out (by (try simp only [List.length_cons, List.length_nil, Nat.zero_add, Nat.reduceAdd]); have := HC.out; have := HSC.out; omega))
      refine op1 7 (fun K hK => ?_)
      go_simp
      go_at_call 30
      refine CC9.out.mono ?_
      intro e y9 o
      obtain ⟨r9, M9, L9, rfl, _, g, kk, ff, kr⟩ := G8.out.stepK o
      have D9 := Lib.hid (D8.out.step CT.out G8.out.rep kk ff kr)
      have G9 := Lib.hid g
      clear o g kk ff kr CC9
      go_wp2_with fail
      refine hK.out _ _ D9.out.T (fun hHeld => ?_)
      clear hK K hS
      have hS := hHeld
      clear hHeld
      try simp only [Act.put, List.setIfInBounds_toArray, List.set_cons_zero, List.set_cons_succ]
      refine op1 8 (fun K hK => ?_)
      have lc := D9.out.c
      have lz := D9.out.z
      go_simp
      clear lc lz
      refine hK.out _ _ D9.out.T2 (fun hHeld => ?_)
      clear hK K hS
      have hS := hHeld
      clear hHeld
      try simp only [Act.put, List.setIfInBounds_toArray, List.set_cons_zero, List.set_cons_succ]
      refine wpAnyH_done (by kernel_rfl) ?_ _
      clear hS
      have RES : Hid (KeepsRec y0 (y9.setCell ⟨w1.heap.size, 0, none⟩ (.int .i64 r9)) ∧ BkR (w1.heap.size + 1) b y0 (y9.setCell ⟨w1.heap.size, 0, none⟩ (.int .i64 r9)) ∧ SrcI w W0 p c w.heap.size w1.heap.size cs L L1 B es (pre ++ [ts.length - 1 - pre.length]) (y9.setCell ⟨w1.heap.size, 0, none⟩ (.int .i64 r9))) := Lib.hid (by
       obtain ⟨a1, a2, a3, a4, a5, a6, a7⟩ := D9.out.fin CT.out G9.out (by have := HWF.out; omega) GLT.out (by omega) (by have := HBF.out; omega) r9
       refine ⟨a1, a2, r9, M9, L9, ?_, a4, a5, a6, a7⟩
       rw [DR1.out]
       refine ((a3.cong EQ.out).sub (fun x hx => ?_)).mono (by rw [show (pre ++ [ts.length - 1 - pre.length]).length = pre.length + 1 from by simp, SC_succ]; (try simp only [List.length_cons, List.length_nil, Nat.zero_add, Nat.reduceAdd]); have := HSC.out; omega)
       rcases List.mem_cons.1 hx with rfl | hx
       ·exact .head _
       ·exact (.tail _ (.tail _ (.tail _ (.tail _ (.tail _ (.tail _ hx)))))))
      gi_wp2
      exact RES.out
    ·as_aux_lemma =>
      have lc := D7.out.c
      go_simp
      clear lc
      refine hK.out _ _ D7.out.T (fun hHeld => ?_)
      clear hK K hS
      have hS := hHeld
      clear hHeld
      try simp only [Act.put, List.setIfInBounds_toArray, List.set_cons_zero, List.set_cons_succ]
      have CC8 := Lib.hid (value_ok 0 (by omega) false t.i OKT.out.i G7.out.rep G7.out.qk G7.out.gl G7.out.off (by (try simp only [List.length_cons, List.length_nil, Nat.zero_add, Nat.reduceAdd]); have := HC.out; have := HSC.out; omega))
      refine op1 4 (fun K hK => ?_)
      go_simp
      go_at_call 29
      refine CC8.out.mono ?_
      intro e y8 o
      obtain ⟨r8, M8, L8, rfl, _, g, kk, ff, kr⟩ := G7.out.stepK o
      have D8 := Lib.hid (D7.out.step CT.out G7.out.rep kk ff kr)
      have G8 := Lib.hid g
      clear o g kk ff kr CC8
      go_wp2_with fail
      refine hK.out _ _ D8.out.T (fun hHeld => ?_)
      clear hK K hS
      have hS := hHeld
      clear hHeld
      try simp only [Act.put, List.setIfInBounds_toArray, List.set_cons_zero, List.set_cons_succ]
      have CC9 := Lib.hid (IteQ G8.out.rep G8.out.qk (List.Mem.head _) (List.Mem.tail _ (List.Mem.head _)) (List.Mem.tail _ (List.Mem.tail _ (List.Mem.tail _ (List.Mem.tail _ (List.Mem.head _))))) PSI.out (by (try simp only [List.length_cons, List.length_nil, Nat.zero_add, Nat.reduceAdd]); have := HC.out; have := HSC.out; omega))
      refine op1 7 (fun K hK => ?_)
      go_simp
      go_at_call 30
      refine CC9.out.mono ?_
      intro e y9 o
      obtain ⟨r9, M9, L9, rfl, _, g, kk, ff, kr⟩ := G8.out.stepK o
      have D9 := Lib.hid (D8.out.step CT.out G8.out.rep kk ff kr)
      have G9 := Lib.hid g
      clear o g kk ff kr CC9
      go_wp2_with fail
      refine hK.out _ _ D9.out.T (fun hHeld => ?_)
      clear hK K hS
      have hS := hHeld
      clear hHeld
      try simp only [Act.put, List.setIfInBounds_toArray, List.set_cons_zero, List.set_cons_succ]
      refine op1 8 (fun K hK => ?_)
      have lc := D9.out.c
      have lz := D9.out.z
      go_simp
      clear lc lz
      refine hK.out _ _ D9.out.T2 (fun hHeld => ?_)
      clear hK K hS
      have hS := hHeld
      clear hHeld
      try simp only [Act.put, List.setIfInBounds_toArray, List.set_cons_zero, List.set_cons_succ]
      refine wpAnyH_done (by kernel_rfl) ?_ _
      clear hS
      have RES : Hid (KeepsRec y0 (y9.setCell ⟨w1.heap.size, 0, none⟩ (.int .i64 r9)) ∧ BkR (w1.heap.size + 1) b y0 (y9.setCell ⟨w1.heap.size, 0, none⟩ (.int .i64 r9)) ∧ SrcI w W0 p c w.heap.size w1.heap.size cs L L1 B es (pre ++ [ts.length - 1 - pre.length]) (y9.setCell ⟨w1.heap.size, 0, none⟩ (.int .i64 r9))) := Lib.hid (by
       obtain ⟨a1, a2, a3, a4, a5, a6, a7⟩ := D9.out.fin CT.out G9.out (by have := HWF.out; omega) GLT.out (by omega) (by have := HBF.out; omega) r9
       refine ⟨a1, a2, r9, M9, L9, ?_, a4, a5, a6, a7⟩
       rw [DR1.out]
       refine ((a3.cong EQ.out).sub (fun x hx => ?_)).mono (by rw [show (pre ++ [ts.length - 1 - pre.length]).length = pre.length + 1 from by simp, SC_succ]; (try simp only [List.length_cons, List.length_nil, Nat.zero_add, Nat.reduceAdd]); have := HSC.out; omega)
       rcases List.mem_cons.1 hx with rfl | hx
       ·exact .head _
       ·exact (.tail _ (.tail _ (.tail _ (.tail _ (.tail _ (.tail _ hx)))))))
      gi_wp2
      exact RES.out
  ·as_aux_lemma =>
    have TE : Hid (t.ent (acG acs) = .pool t.nm.toList.isEmpty (acG acs t.nm) t.lo t.hi) := Lib.hid (by unfold Tr.ent; rw [if_neg (by omega), if_pos e1])
    have EQ : Hid (∀ a, (if (aclS acs t.nm) a = true then (allF [samF (exW [0]), rgF 0 true t.lo t.hi]) a else srcF (es.drop (es.length - pre.length)) a) = srcF (es.drop i) a) := Lib.hid (fun a => by rw [DROP.out, TE.out]; rfl)
    have PSI : Hid (PSt 220 (fun a => if (aclS acs t.nm) a = true then (allF [samF (exW [0]), rgF 0 true t.lo t.hi]) a else srcF (es.drop (es.length - pre.length)) a) (SB (pre.length + 1))) := Lib.hid (((src_st (es.drop i) OKE.out).mono (Nat.le_of_eq (congrArg SB DL2.out))).congr EQ.out)
    rw [e1] at v0
    gi_wp2
    clear u2 v0 v1 v2' v3' v4 v5
    have G1 := Lib.hid (G0.out.no (Kp.drew (w := y0)))
    have D1 := Lib.hid (D0.out.no CT.out (Kp.drew (w := y0)))
    refine region_round (S := TS p w.heap.size nb cs t) (by kernel_rfl) (by kernel_rfl) (fun ⟨_, _, h⟩ => h) D1.out.T (fun hS => ?_)
    generalize y0.drew = y1 at *
    refine tk 0 hS ?_
    refine tk 1 hS ?_
    refine tk 4 hS ?_
    refine tk 5 hS ?_
    refine tk 6 hS ?_
    refine tk 7 hS ?_
    refine tk 8 hS ?_
    refine op1 2 (fun K hK => ?_)
    go_simp
    have G2 := Lib.hid (G1.out.no (Kp.alloc (w := y1) (.cells #[.int .i64 0] 3)))
    have D2 := Lib.hid (D1.out.no CT.out (Kp.alloc (w := y1) (.cells #[.int .i64 0] 3)))
    have SRC2 := Lib.hid (src_lit y1 [.int .i64 0] 3)
    have NL2 : Hid (∀ g o m k, Value.slice (some ⟨y1.heap.size, 0, none⟩) 1 1 = .slice (some ⟨g, o, none⟩) m k → ¬ (L').at p g) := Lib.hid (fun g o m k e h => by cases e; have := G1.out.rep.lt _ h; omega)
    refine hK.out _ _ D2.out.T (fun hHeld => ?_)
    clear hK K hS
    have hS := hHeld
    clear hHeld
    try simp only [Act.put, List.setIfInBounds_toArray, List.set_cons_zero, List.set_cons_succ]
    generalize hz2 : y1.heap.size = z2 at *
    generalize y1.alloc (.cells #[.int .i64 0] 3) = y2 at *
    clear hz2
    have CC3 := Lib.hid (except_ok [0] (by simp) G2.out.rep G2.out.qk G2.out.gl G2.out.off (dv := .slice (some ⟨z2, 0, none⟩) 1 1) SRC2.out (by (try simp only [List.length_cons, List.length_nil, Nat.zero_add, Nat.reduceAdd]); have := HC.out; have := HSC.out; omega))
    refine op1 3 (fun K hK => ?_)
    go_simp
    go_at_call 28
    refine CC3.out.mono ?_
    intro e y3 o
    obtain ⟨r3, M3, L3, rfl, _, g, kk, ff, kr⟩ := G2.out.stepK o
    have D3 := Lib.hid (D2.out.step CT.out G2.out.rep kk ff kr)
    have G3 := Lib.hid g
    clear o g kk ff kr CC3
    go_wp2_with fail
    refine hK.out _ _ D3.out.T (fun hHeld => ?_)
    clear hK K hS
    have hS := hHeld
    clear hHeld
    try simp only [Act.put, List.setIfInBounds_toArray, List.set_cons_zero, List.set_cons_succ]
    have CC4 := Lib.hid (Range_ok 0 (by omega) true t.lo t.hi OKT.out.lo OKT.out.hi G3.out.rep G3.out.qk G3.out.gl G3.out.off (by (try simp only [List.length_cons, List.length_nil, Nat.zero_add, Nat.reduceAdd]); have := HC.out; have := HSC.out; omega))
    refine op1 9 (fun K hK => ?_)
    go_simp
    go_at_call 31
    refine CC4.out.mono ?_
    intro e y4 o
    obtain ⟨r4, M4, L4, rfl, _, g, kk, ff, kr⟩ := G3.out.stepK o
    have D4 := Lib.hid (D3.out.step CT.out G3.out.rep kk ff kr)
    have G4 := Lib.hid g
    clear o g kk ff kr CC4
    go_wp2_with fail
    refine hK.out _ _ D4.out.T (fun hHeld => ?_)
    clear hK K hS
    have hS := hHeld
    clear hHeld
    try simp only [Act.put, List.setIfInBounds_toArray, List.set_cons_zero, List.set_cons_succ]
    refine op1 10 (fun K hK => ?_)
    go_simp
    have G5 := Lib.hid (G4.out.no (Kp.alloc (w := y4) (.cells #[.int .i64 r3, .int .i64 r4] 54)))
    have D5 := Lib.hid (D4.out.no CT.out (Kp.alloc (w := y4) (.cells #[.int .i64 r3, .int .i64 r4] 54)))
    have SRC5 := Lib.hid (src_lit y4 [.int .i64 r3, .int .i64 r4] 54)
    have NL5 : Hid (∀ g o m k, Value.slice (some ⟨y4.heap.size, 0, none⟩) 2 2 = .slice (some ⟨g, o, none⟩) m k → ¬ (L4).at p g) := Lib.hid (fun g o m k e h => by cases e; have := G4.out.rep.lt _ h; omega)
    refine hK.out _ _ D5.out.T (fun hHeld => ?_)
    clear hK K hS
    have hS := hHeld
    clear hHeld
    try simp only [Act.put, List.setIfInBounds_toArray, List.set_cons_zero, List.set_cons_succ]
    generalize hz5 : y4.heap.size = z5 at *
    generalize y4.alloc (.cells #[.int .i64 r3, .int .i64 r4] 54) = y5 at *
    clear hz5
    have MM5 : Hid (∀ x, x ∈ ([(r3, samF (exW [0])), (r4, rgF 0 true t.lo t.hi)] : List (Int × Bfn)) → x ∈ ((r4, rgF 0 true t.lo t.hi) :: (r3, samF (exW [0])) :: (r, srcF (es.drop (es.length - pre.length))) :: B)) := Lib.hid (fun x hx => by
      rcases List.mem_cons.1 hx with rfl | hx
      ·exact (List.Mem.tail _ (List.Mem.head _))
      rcases List.mem_cons.1 hx with rfl | hx
      ·exact (List.Mem.head _)
      cases hx)
    have PP5 : Hid (∀ j, PSt 220 (allF (([(r3, samF (exW [0])), (r4, rgF 0 true t.lo t.hi)] : List (Int × Bfn)).drop j |>.map Prod.snd)) 729) := Lib.hid (fun j => by
     rw [List.map_drop]
     exact allF_drop (by simp) (fun F hF => by
       rcases List.mem_cons.1 hF with rfl | hF
       ·show PSt 220 (samF (exW [0])) 9
        exact (samF_st _).mono (show 4 ≤ 9 by decide)
       rcases List.mem_cons.1 hF with rfl | hF
       ·show PSt 220 (rgF 0 true t.lo t.hi) 9
        exact rgF_nine (by decide) _ _
       cases hF) j)
    have CC6 := Lib.hid (all_ok (s := 729) [(r3, samF (exW [0])), (r4, rgF 0 true t.lo t.hi)] (by simp) (by simp) MM5.out G5.out.rep G5.out.qk G5.out.gl G5.out.off (dv := .slice (some ⟨z5, 0, none⟩) 2 2) SRC5.out NL5.out PP5.out (by (try simp only [List.length_cons, List.length_nil, Nat.zero_add, Nat.reduceAdd]); have := HC.out; have := HSC.out; omega))
    refine op1 11 (fun K hK => ?_)
    go_simp
    go_at_call 27
    refine CC6.out.mono ?_
    intro e y6 o
    obtain ⟨r6, M6, L6, rfl, _, g, kk, ff, kr⟩ := G5.out.stepK o
    have D6 := Lib.hid (D5.out.step CT.out G5.out.rep kk ff kr)
    have G6 := Lib.hid g
    clear o g kk ff kr CC6
    go_wp2_with fail
    refine hK.out _ _ D6.out.T (fun hHeld => ?_)
    clear hK K hS
    have hS := hHeld
    clear hHeld
    try simp only [Act.put, List.setIfInBounds_toArray, List.set_cons_zero, List.set_cons_succ]
    refine tk 12 hS ?_
    refine wpAnyH_done (by kernel_rfl) ?_ _
    clear hS
    gi_wp2
    have G7 := Lib.hid (G6.out.no (Kp.drew (w := y6)))
    have D7 := Lib.hid (D6.out.no CT.out (Kp.drew (w := y6)))
    refine region_round (S := TS p w.heap.size nb cs t) (by kernel_rfl) (by kernel_rfl) (fun ⟨_, _, h⟩ => h) D7.out.T (fun hS => ?_)
    generalize y6.drew = y7 at *
    refine tk 0 hS ?_
    refine tk 1 hS ?_
    refine tk 2 (v := .agg cs) hS ?_ (hy := (yields_load_rt (by kernel_rfl) _ rfl (w.heap.size + 1) rfl cs HCS.out (fun _ h => by unfold TS at h; exact h.2.2.2.2.2.2.2.2.2.2)))
    refine tk 3 hS ?_
    refine tk 4 hS ?_
    refine tk 6 hS ?_
    refine wpAnyH_ready (rs := [5, 7]) (by kernel_rfl) (by simp) ?_
    refine AllReadyH.cons rfl (fun K hK => ?_) (AllReadyH.cons rfl (fun K hK => ?_) AllReadyH.nil)
    ·as_aux_lemma =>
      have CC8 := Lib.hid (PACL_ok cs HCS.out acs t.nm hle hro G7.out.rep G7.out.qk G7.out.gl G7.out.off (HAN.out.of G7.out.sd.kp G7.out.sd.fr) (by (try simp only [List.length_cons, List.length_nil, Nat.zero_add, Nat.reduceAdd]); have := HC.out; have := HSC.out; omega))
      go_simp
      go_at_call 32
      refine CC8.out.mono ?_
      intro e y8 o
      obtain ⟨r8, M8, L8, rfl, _, g, kk, ff, kr⟩ := G7.out.stepK o
      have D8 := Lib.hid (D7.out.step CT.out G7.out.rep kk ff kr)
      have G8 := Lib.hid g
      clear o g kk ff kr CC8
      go_wp2_with fail
      refine hK.out _ _ D8.out.T (fun hHeld => ?_)
      clear hK K hS
      have hS := hHeld
      clear hHeld
      try simp only [Act.put, List.setIfInBounds_toArray, List.set_cons_zero, List.set_cons_succ]
      refine op1 7 (fun K hK => ?_)
      have lc := D8.out.c
      go_simp
      clear lc
      refine hK.out _ _ D8.out.T (fun hHeld => ?_)
      clear hK K hS
      have hS := hHeld
      clear hHeld
      try simp only [Act.put, List.setIfInBounds_toArray, List.set_cons_zero, List.set_cons_succ]
      have CC9 := Lib.hid (IteQ G8.out.rep G8.out.qk (List.Mem.head _) (List.Mem.tail _ (List.Mem.head _)) (List.Mem.tail _ (List.Mem.tail _ (List.Mem.tail _ (List.Mem.tail _ (List.Mem.head _))))) PSI.out (by (try simp only [List.length_cons, List.length_nil, Nat.zero_add, Nat.reduceAdd]); have := HC.out; have := HSC.out; omega))
      refine op1 8 (fun K hK => ?_)
      go_simp
      go_at_call 30
      refine CC9.out.mono ?_
      intro e y9 o
      obtain ⟨r9, M9, L9, rfl, _, g, kk, ff, kr⟩ := G8.out.stepK o
      have D9 := Lib.hid (D8.out.step CT.out G8.out.rep kk ff kr)
      have G9 := Lib.hid g
      clear o g kk ff kr CC9
      go_wp2_with fail
      refine hK.out _ _ D9.out.T (fun hHeld => ?_)
      clear hK K hS
      have hS := hHeld
      clear hHeld
      try simp only [Act.put, List.setIfInBounds_toArray, List.set_cons_zero, List.set_cons_succ]
      refine op1 9 (fun K hK => ?_)
      have lc := D9.out.c
      have lz := D9.out.z
      go_simp
      clear lc lz
      refine hK.out _ _ D9.out.T2 (fun hHeld => ?_)
      clear hK K hS
      have hS := hHeld
      clear hHeld
      try simp only [Act.put, List.setIfInBounds_toArray, List.set_cons_zero, List.set_cons_succ]
      refine wpAnyH_done (by kernel_rfl) ?_ _
      clear hS
      have RES : Hid (KeepsRec y0 (y9.setCell ⟨w1.heap.size, 0, none⟩ (.int .i64 r9)) ∧ BkR (w1.heap.size + 1) b y0 (y9.setCell ⟨w1.heap.size, 0, none⟩ (.int .i64 r9)) ∧ SrcI w W0 p c w.heap.size w1.heap.size cs L L1 B es (pre ++ [ts.length - 1 - pre.length]) (y9.setCell ⟨w1.heap.size, 0, none⟩ (.int .i64 r9))) := Lib.hid (by
       obtain ⟨a1, a2, a3, a4, a5, a6, a7⟩ := D9.out.fin CT.out G9.out (by have := HWF.out; omega) GLT.out (by omega) (by have := HBF.out; omega) r9
       refine ⟨a1, a2, r9, M9, L9, ?_, a4, a5, a6, a7⟩
       rw [DR1.out]
       refine ((a3.cong EQ.out).sub (fun x hx => ?_)).mono (by rw [show (pre ++ [ts.length - 1 - pre.length]).length = pre.length + 1 from by simp, SC_succ]; (try simp only [List.length_cons, List.length_nil, Nat.zero_add, Nat.reduceAdd]); have := HSC.out; omega)
       rcases List.mem_cons.1 hx with rfl | hx
       ·exact .head _
       ·exact (.tail _ (.tail _ (.tail _ (.tail _ (.tail _ (.tail _ hx)))))))
      gi_wp2
      exact RES.out
    ·as_aux_lemma =>
      have lc := D7.out.c
      go_simp
      clear lc
      refine hK.out _ _ D7.out.T (fun hHeld => ?_)
      clear hK K hS
      have hS := hHeld
      clear hHeld
      try simp only [Act.put, List.setIfInBounds_toArray, List.set_cons_zero, List.set_cons_succ]
      have CC8 := Lib.hid (PACL_ok cs HCS.out acs t.nm hle hro G7.out.rep G7.out.qk G7.out.gl G7.out.off (HAN.out.of G7.out.sd.kp G7.out.sd.fr) (by (try simp only [List.length_cons, List.length_nil, Nat.zero_add, Nat.reduceAdd]); have := HC.out; have := HSC.out; omega))
      refine op1 5 (fun K hK => ?_)
      go_simp
      go_at_call 32
      refine CC8.out.mono ?_
      intro e y8 o
      obtain ⟨r8, M8, L8, rfl, _, g, kk, ff, kr⟩ := G7.out.stepK o
      have D8 := Lib.hid (D7.out.step CT.out G7.out.rep kk ff kr)
      have G8 := Lib.hid g
      clear o g kk ff kr CC8
      go_wp2_with fail
      refine hK.out _ _ D8.out.T (fun hHeld => ?_)
      clear hK K hS
      have hS := hHeld
      clear hHeld
      try simp only [Act.put, List.setIfInBounds_toArray, List.set_cons_zero, List.set_cons_succ]
      have CC9 := Lib.hid (IteQ G8.out.rep G8.out.qk (List.Mem.head _) (List.Mem.tail _ (List.Mem.head _)) (List.Mem.tail _ (List.Mem.tail _ (List.Mem.tail _ (List.Mem.tail _ (List.Mem.head _))))) PSI.out (by (try simp only [List.length_cons, List.length_nil, Nat.zero_add, Nat.reduceAdd]); have := HC.out; have := HSC.out; omega))
      refine op1 8 (fun K hK => ?_)
      go_simp
      go_at_call 30
      refine CC9.out.mono ?_
      intro e y9 o
      obtain ⟨r9, M9, L9, rfl, _, g, kk, ff, kr⟩ := G8.out.stepK o
      have D9 := Lib.hid (D8.out.step CT.out G8.out.rep kk ff kr)
      have G9 := Lib.hid g
      clear o g kk ff kr CC9
      go_wp2_with fail
      refine hK.out _ _ D9.out.T (fun hHeld => ?_)
      clear hK K hS
      have hS := hHeld
      clear hHeld
      try simp only [Act.put, List.setIfInBounds_toArray, List.set_cons_zero, List.set_cons_succ]
      refine op1 9 (fun K hK => ?_)
      have lc := D9.out.c
      have lz := D9.out.z
      go_simp
      clear lc lz
      refine hK.out _ _ D9.out.T2 (fun hHeld => ?_)
      clear hK K hS
      have hS := hHeld
      clear hHeld
      try simp only [Act.put, List.setIfInBounds_toArray, List.set_cons_zero, List.set_cons_succ]
      refine wpAnyH_done (by kernel_rfl) ?_ _
      clear hS
      have RES : Hid (KeepsRec y0 (y9.setCell ⟨w1.heap.size, 0, none⟩ (.int .i64 r9)) ∧ BkR (w1.heap.size + 1) b y0 (y9.setCell ⟨w1.heap.size, 0, none⟩ (.int .i64 r9)) ∧ SrcI w W0 p c w.heap.size w1.heap.size cs L L1 B es (pre ++ [ts.length - 1 - pre.length]) (y9.setCell ⟨w1.heap.size, 0, none⟩ (.int .i64 r9))) := Lib.hid (by
       obtain ⟨a1, a2, a3, a4, a5, a6, a7⟩ := D9.out.fin CT.out G9.out (by have := HWF.out; omega) GLT.out (by omega) (by have := HBF.out; omega) r9
       refine ⟨a1, a2, r9, M9, L9, ?_, a4, a5, a6, a7⟩
       rw [DR1.out]
       refine ((a3.cong EQ.out).sub (fun x hx => ?_)).mono (by rw [show (pre ++ [ts.length - 1 - pre.length]).length = pre.length + 1 from by simp, SC_succ]; (try simp only [List.length_cons, List.length_nil, Nat.zero_add, Nat.reduceAdd]); have := HSC.out; omega)
       rcases List.mem_cons.1 hx with rfl | hx
       ·exact .head _
       ·exact (.tail _ (.tail _ (.tail _ (.tail _ (.tail _ (.tail _ hx)))))))
      gi_wp2
      exact RES.out
  ·as_aux_lemma =>
    have TE : Hid (t.ent (acG acs) = .fwd t.i t.pr.toNat t.ip.toNat t.o t.op.toNat) := Lib.hid (by unfold Tr.ent; rw [if_neg (by omega), if_neg (by omega)])
    obtain ⟨prN, hpr⟩ : ∃ n : Nat, t.pr = (n : Int) := ⟨t.pr.toNat, by omega⟩
    obtain ⟨ipN, hip⟩ : ∃ n : Nat, t.ip = (n : Int) := ⟨t.ip.toNat, by omega⟩
    obtain ⟨opN, hop⟩ : ∃ n : Nat, t.op = (n : Int) := ⟨t.op.toNat, by omega⟩
    have te : t.ent (acG acs) = .fwd t.i prN ipN t.o opN := by rw [TE.out, hpr, hip, hop]; rfl
    have TE2 := Lib.hid te
    have EQ : Hid (∀ a, (if (allF [rgF 0 false t.i t.i, rgF 2 false prN prN, rgF 3 false ipN ipN]) a = true then (allF [samF (exW [0, 3]), rgF 0 true t.o t.o, rgF 3 true opN opN]) a else srcF (es.drop (es.length - pre.length)) a) = srcF (es.drop i) a) := Lib.hid (fun a => by rw [DROP.out, TE2.out]; rfl)
    have PSI : Hid (PSt 220 (fun a => if (allF [rgF 0 false t.i t.i, rgF 2 false prN prN, rgF 3 false ipN ipN]) a = true then (allF [samF (exW [0, 3]), rgF 0 true t.o t.o, rgF 3 true opN opN]) a else srcF (es.drop (es.length - pre.length)) a) (SB (pre.length + 1))) := Lib.hid (((src_st (es.drop i) OKE.out).mono (Nat.le_of_eq (congrArg SB DL2.out))).congr EQ.out)
    have hprN : (prN : Int) < 256 := by omega
    have hipN : (ipN : Int) < 65536 := by omega
    have hopN : (opN : Int) < 65536 := by omega
    have BN : Hid (prN < 4294967296 ∧ ipN < 4294967296 ∧ opN < 4294967296) := Lib.hid ⟨by omega, by omega, by omega⟩
    have DSE : Hid (∀ y, TS p w.heap.size nb cs t y → TS p w.heap.size nb cs { t with pr := (prN : Int), ip := (ipN : Int), op := (opN : Int), k := 3 } y) := Lib.hid (fun y h => by unfold TS at h ⊢; dsimp only; rw [← hpr, ← hip, ← hop, ← e1]; exact h)
    rw [e1] at v0
    clear hpr hip hop te h1 h2 h3
    gi_wp2
    clear u2 v0 v1 v2' v3' v4 v5
    have G1 := Lib.hid (G0.out.no (Kp.drew (w := y0)))
    have D1 := Lib.hid (D0.out.no CT.out (Kp.drew (w := y0)))
    refine region_round (S := TS p w.heap.size nb cs t) (by kernel_rfl) (by kernel_rfl) (fun ⟨_, _, h⟩ => h) D1.out.T (fun hS => ?_)
    generalize y0.drew = y1 at *
    refine tkS 0 DSE.out hS ?_
    refine tkS 1 DSE.out hS ?_
    refine tkS 2 DSE.out hS ?_
    refine tkS 3 DSE.out hS ?_
    refine tkS 5 DSE.out hS ?_
    refine tkS 6 DSE.out hS ?_
    refine tkS 7 DSE.out hS ?_
    refine tkS 8 DSE.out (v := .int .u32 (prN : Int)) hS ?_ (hy := by refine Or.inl ⟨by rfl, fun w hSw => ?_⟩; obtain ⟨hS1, hS2⟩ := hSw; go_simp; first | done | omega | (rw [IntKind.wrap_u32]; omega) | rfl)
    refine tkS 10 DSE.out hS ?_
    refine tkS 11 DSE.out hS ?_
    refine tkS 12 DSE.out hS ?_
    refine tkS 13 DSE.out (v := .int .u32 (ipN : Int)) hS ?_ (hy := by refine Or.inl ⟨by rfl, fun w hSw => ?_⟩; obtain ⟨hS1, hS2⟩ := hSw; go_simp; first | done | omega | (rw [IntKind.wrap_u32]; omega) | rfl)
    have CC2 := Lib.hid (value_ok 0 (by omega) false t.i OKT.out.i G1.out.rep G1.out.qk G1.out.gl G1.out.off (by (try simp only [List.length_cons, List.length_nil, Nat.zero_add, Nat.reduceAdd]); have := HC.out; have := HSC.out; omega))
    refine op1 4 (fun K hK => ?_)
    go_simp
    go_at_call 29
    refine CC2.out.mono ?_
    intro e y2 o
    obtain ⟨r2, M2, L2, rfl, _, g, kk, ff, kr⟩ := G1.out.stepK o
    have D2 := Lib.hid (D1.out.step CT.out G1.out.rep kk ff kr)
    have G2 := Lib.hid g
    clear o g kk ff kr CC2
    go_wp2_with fail
    refine hK.out _ _ D2.out.T (fun hHeld => ?_)
    clear hK K hS
    have hS := hHeld
    clear hHeld
    try simp only [Act.put, List.setIfInBounds_toArray, List.set_cons_zero, List.set_cons_succ]
    have CC3 := Lib.hid (value_ok 2 (by omega) false prN BN.out.1 G2.out.rep G2.out.qk G2.out.gl G2.out.off (by (try simp only [List.length_cons, List.length_nil, Nat.zero_add, Nat.reduceAdd]); have := HC.out; have := HSC.out; omega))
    refine op1 9 (fun K hK => ?_)
    go_simp
    go_at_call 29
    refine CC3.out.mono ?_
    intro e y3 o
    obtain ⟨r3, M3, L3, rfl, _, g, kk, ff, kr⟩ := G2.out.stepK o
    have D3 := Lib.hid (D2.out.step CT.out G2.out.rep kk ff kr)
    have G3 := Lib.hid g
    clear o g kk ff kr CC3
    go_wp2_with fail
    refine hK.out _ _ D3.out.T (fun hHeld => ?_)
    clear hK K hS
    have hS := hHeld
    clear hHeld
    try simp only [Act.put, List.setIfInBounds_toArray, List.set_cons_zero, List.set_cons_succ]
    have CC4 := Lib.hid (value_ok 3 (by omega) false ipN BN.out.2.1 G3.out.rep G3.out.qk G3.out.gl G3.out.off (by (try simp only [List.length_cons, List.length_nil, Nat.zero_add, Nat.reduceAdd]); have := HC.out; have := HSC.out; omega))
    refine op1 14 (fun K hK => ?_)
    go_simp
    go_at_call 29
    refine CC4.out.mono ?_
    intro e y4 o
    obtain ⟨r4, M4, L4, rfl, _, g, kk, ff, kr⟩ := G3.out.stepK o
    have D4 := Lib.hid (D3.out.step CT.out G3.out.rep kk ff kr)
    have G4 := Lib.hid g
    clear o g kk ff kr CC4
    go_wp2_with fail
    refine hK.out _ _ D4.out.T (fun hHeld => ?_)
    clear hK K hS
    have hS := hHeld
    clear hHeld
    try simp only [Act.put, List.setIfInBounds_toArray, List.set_cons_zero, List.set_cons_succ]
    refine op1 15 (fun K hK => ?_)
    go_simp
    have G5 := Lib.hid (G4.out.no (Kp.alloc (w := y4) (.cells #[.int .i64 r2, .int .i64 r3, .int .i64 r4] 54)))
    have D5 := Lib.hid (D4.out.no CT.out (Kp.alloc (w := y4) (.cells #[.int .i64 r2, .int .i64 r3, .int .i64 r4] 54)))
    have SRC5 := Lib.hid (src_lit y4 [.int .i64 r2, .int .i64 r3, .int .i64 r4] 54)
    have NL5 : Hid (∀ g o m k, Value.slice (some ⟨y4.heap.size, 0, none⟩) 3 3 = .slice (some ⟨g, o, none⟩) m k → ¬ (L4).at p g) := Lib.hid (fun g o m k e h => by cases e; have := G4.out.rep.lt _ h; omega)
    refine hK.out _ _ D5.out.T (fun hHeld => ?_)
    clear hK K hS
    have hS := hHeld
    clear hHeld
    try simp only [Act.put, List.setIfInBounds_toArray, List.set_cons_zero, List.set_cons_succ]
    generalize hz5 : y4.heap.size = z5 at *
    generalize y4.alloc (.cells #[.int .i64 r2, .int .i64 r3, .int .i64 r4] 54) = y5 at *
    clear hz5
    have MM5 : Hid (∀ x, x ∈ ([(r2, rgF 0 false t.i t.i), (r3, rgF 2 false prN prN), (r4, rgF 3 false ipN ipN)] : List (Int × Bfn)) → x ∈ ((r4, rgF 3 false ipN ipN) :: (r3, rgF 2 false prN prN) :: (r2, rgF 0 false t.i t.i) :: (r, srcF (es.drop (es.length - pre.length))) :: B)) := Lib.hid (fun x hx => by
      rcases List.mem_cons.1 hx with rfl | hx
      ·exact (List.Mem.tail _ (List.Mem.tail _ (List.Mem.head _)))
      rcases List.mem_cons.1 hx with rfl | hx
      ·exact (List.Mem.tail _ (List.Mem.head _))
      rcases List.mem_cons.1 hx with rfl | hx
      ·exact (List.Mem.head _)
      cases hx)
    have PP5 : Hid (∀ j, PSt 220 (allF (([(r2, rgF 0 false t.i t.i), (r3, rgF 2 false prN prN), (r4, rgF 3 false ipN ipN)] : List (Int × Bfn)).drop j |>.map Prod.snd)) 729) := Lib.hid (fun j => by
     rw [List.map_drop]
     exact allF_drop (by simp) (fun F hF => by
       rcases List.mem_cons.1 hF with rfl | hF
       ·show PSt 220 (rgF 0 false t.i t.i) 9
        exact rgF_nine (by decide) _ _
       rcases List.mem_cons.1 hF with rfl | hF
       ·show PSt 220 (rgF 2 false prN prN) 9
        exact rgF_nine (by decide) _ _
       rcases List.mem_cons.1 hF with rfl | hF
       ·show PSt 220 (rgF 3 false ipN ipN) 9
        exact rgF_nine (by decide) _ _
       cases hF) j)
    have CC6 := Lib.hid (all_ok (s := 729) [(r2, rgF 0 false t.i t.i), (r3, rgF 2 false prN prN), (r4, rgF 3 false ipN ipN)] (by simp) (by simp) MM5.out G5.out.rep G5.out.qk G5.out.gl G5.out.off (dv := .slice (some ⟨z5, 0, none⟩) 3 3) SRC5.out NL5.out PP5.out (by (try simp only [List.length_cons, List.length_nil, Nat.zero_add, Nat.reduceAdd]); have := HC.out; have := HSC.out; omega))
    refine op1 16 (fun K hK => ?_)
    go_simp
    go_at_call 27
    refine CC6.out.mono ?_
    intro e y6 o
    obtain ⟨r6, M6, L6, rfl, _, g, kk, ff, kr⟩ := G5.out.stepK o
    have D6 := Lib.hid (D5.out.step CT.out G5.out.rep kk ff kr)
    have G6 := Lib.hid g
    clear o g kk ff kr CC6
    go_wp2_with fail
    refine hK.out _ _ D6.out.T (fun hHeld => ?_)
    clear hK K hS
    have hS := hHeld
    clear hHeld
    try simp only [Act.put, List.setIfInBounds_toArray, List.set_cons_zero, List.set_cons_succ]
    refine tkS 17 DSE.out hS ?_
    refine wpAnyH_done (by kernel_rfl) ?_ _
    clear hS
    gi_wp2
    have G7 := Lib.hid (G6.out.no (Kp.drew (w := y6)))
    have D7 := Lib.hid (D6.out.no CT.out (Kp.drew (w := y6)))
    refine region_round (S := TS p w.heap.size nb cs t) (by kernel_rfl) (by kernel_rfl) (fun ⟨_, _, h⟩ => h) D7.out.T (fun hS => ?_)
    generalize y6.drew = y7 at *
    refine tkS 0 DSE.out hS ?_
    refine tkS 1 DSE.out hS ?_
    refine tkS 4 DSE.out hS ?_
    refine tkS 5 DSE.out hS ?_
    refine tkS 6 DSE.out hS ?_
    refine tkS 8 DSE.out hS ?_
    refine tkS 9 DSE.out hS ?_
    refine tkS 10 DSE.out hS ?_
    refine tkS 11 DSE.out (v := .int .u32 (opN : Int)) hS ?_ (hy := by refine Or.inl ⟨by rfl, fun w hSw => ?_⟩; obtain ⟨hS1, hS2⟩ := hSw; go_simp; first | done | omega | (rw [IntKind.wrap_u32]; omega) | rfl)
    refine op1 2 (fun K hK => ?_)
    go_simp
    have G8 := Lib.hid (G7.out.no (Kp.alloc (w := y7) (.cells #[.int .i64 0, .int .i64 3] 3)))
    have D8 := Lib.hid (D7.out.no CT.out (Kp.alloc (w := y7) (.cells #[.int .i64 0, .int .i64 3] 3)))
    have SRC8 := Lib.hid (src_lit y7 [.int .i64 0, .int .i64 3] 3)
    have NL8 : Hid (∀ g o m k, Value.slice (some ⟨y7.heap.size, 0, none⟩) 2 2 = .slice (some ⟨g, o, none⟩) m k → ¬ (L6).at p g) := Lib.hid (fun g o m k e h => by cases e; have := G7.out.rep.lt _ h; omega)
    refine hK.out _ _ D8.out.T (fun hHeld => ?_)
    clear hK K hS
    have hS := hHeld
    clear hHeld
    try simp only [Act.put, List.setIfInBounds_toArray, List.set_cons_zero, List.set_cons_succ]
    generalize hz8 : y7.heap.size = z8 at *
    generalize y7.alloc (.cells #[.int .i64 0, .int .i64 3] 3) = y8 at *
    clear hz8
    have CC9 := Lib.hid (except_ok [0, 3] (by simp) G8.out.rep G8.out.qk G8.out.gl G8.out.off (dv := .slice (some ⟨z8, 0, none⟩) 2 2) SRC8.out (by (try simp only [List.length_cons, List.length_nil, Nat.zero_add, Nat.reduceAdd]); have := HC.out; have := HSC.out; omega))
    refine op1 3 (fun K hK => ?_)
    go_simp
    go_at_call 28
    refine CC9.out.mono ?_
    intro e y9 o
    obtain ⟨r9, M9, L9, rfl, _, g, kk, ff, kr⟩ := G8.out.stepK o
    have D9 := Lib.hid (D8.out.step CT.out G8.out.rep kk ff kr)
    have G9 := Lib.hid g
    clear o g kk ff kr CC9
    go_wp2_with fail
    refine hK.out _ _ D9.out.T (fun hHeld => ?_)
    clear hK K hS
    have hS := hHeld
    clear hHeld
    try simp only [Act.put, List.setIfInBounds_toArray, List.set_cons_zero, List.set_cons_succ]
    have CC10 := Lib.hid (value_ok 0 (by omega) true t.o OKT.out.o G9.out.rep G9.out.qk G9.out.gl G9.out.off (by (try simp only [List.length_cons, List.length_nil, Nat.zero_add, Nat.reduceAdd]); have := HC.out; have := HSC.out; omega))
    refine op1 7 (fun K hK => ?_)
    go_simp
    go_at_call 29
    refine CC10.out.mono ?_
    intro e y10 o
    obtain ⟨r10, M10, L10, rfl, _, g, kk, ff, kr⟩ := G9.out.stepK o
    have D10 := Lib.hid (D9.out.step CT.out G9.out.rep kk ff kr)
    have G10 := Lib.hid g
    clear o g kk ff kr CC10
    go_wp2_with fail
    refine hK.out _ _ D10.out.T (fun hHeld => ?_)
    clear hK K hS
    have hS := hHeld
    clear hHeld
    try simp only [Act.put, List.setIfInBounds_toArray, List.set_cons_zero, List.set_cons_succ]
    have CC11 := Lib.hid (value_ok 3 (by omega) true opN BN.out.2.2 G10.out.rep G10.out.qk G10.out.gl G10.out.off (by (try simp only [List.length_cons, List.length_nil, Nat.zero_add, Nat.reduceAdd]); have := HC.out; have := HSC.out; omega))
    refine op1 12 (fun K hK => ?_)
    go_simp
    go_at_call 29
    refine CC11.out.mono ?_
    intro e y11 o
    obtain ⟨r11, M11, L11, rfl, _, g, kk, ff, kr⟩ := G10.out.stepK o
    have D11 := Lib.hid (D10.out.step CT.out G10.out.rep kk ff kr)
    have G11 := Lib.hid g
    clear o g kk ff kr CC11
    go_wp2_with fail
    refine hK.out _ _ D11.out.T (fun hHeld => ?_)
    clear hK K hS
    have hS := hHeld
    clear hHeld
    try simp only [Act.put, List.setIfInBounds_toArray, List.set_cons_zero, List.set_cons_succ]
    refine op1 13 (fun K hK => ?_)
    go_simp
    have G12 := Lib.hid (G11.out.no (Kp.alloc (w := y11) (.cells #[.int .i64 r9, .int .i64 r10, .int .i64 r11] 54)))
    have D12 := Lib.hid (D11.out.no CT.out (Kp.alloc (w := y11) (.cells #[.int .i64 r9, .int .i64 r10, .int .i64 r11] 54)))
    have SRC12 := Lib.hid (src_lit y11 [.int .i64 r9, .int .i64 r10, .int .i64 r11] 54)
    have NL12 : Hid (∀ g o m k, Value.slice (some ⟨y11.heap.size, 0, none⟩) 3 3 = .slice (some ⟨g, o, none⟩) m k → ¬ (L11).at p g) := Lib.hid (fun g o m k e h => by cases e; have := G11.out.rep.lt _ h; omega)
    refine hK.out _ _ D12.out.T (fun hHeld => ?_)
    clear hK K hS
    have hS := hHeld
    clear hHeld
    try simp only [Act.put, List.setIfInBounds_toArray, List.set_cons_zero, List.set_cons_succ]
    generalize hz12 : y11.heap.size = z12 at *
    generalize y11.alloc (.cells #[.int .i64 r9, .int .i64 r10, .int .i64 r11] 54) = y12 at *
    clear hz12
    have MM12 : Hid (∀ x, x ∈ ([(r9, samF (exW [0, 3])), (r10, rgF 0 true t.o t.o), (r11, rgF 3 true opN opN)] : List (Int × Bfn)) → x ∈ ((r11, rgF 3 true opN opN) :: (r10, rgF 0 true t.o t.o) :: (r9, samF (exW [0, 3])) :: (r6, allF [rgF 0 false t.i t.i, rgF 2 false prN prN, rgF 3 false ipN ipN]) :: (r4, rgF 3 false ipN ipN) :: (r3, rgF 2 false prN prN) :: (r2, rgF 0 false t.i t.i) :: (r, srcF (es.drop (es.length - pre.length))) :: B)) := Lib.hid (fun x hx => by
      rcases List.mem_cons.1 hx with rfl | hx
      ·exact (List.Mem.tail _ (List.Mem.tail _ (List.Mem.head _)))
      rcases List.mem_cons.1 hx with rfl | hx
      ·exact (List.Mem.tail _ (List.Mem.head _))
      rcases List.mem_cons.1 hx with rfl | hx
      ·exact (List.Mem.head _)
      cases hx)
    have PP12 : Hid (∀ j, PSt 220 (allF (([(r9, samF (exW [0, 3])), (r10, rgF 0 true t.o t.o), (r11, rgF 3 true opN opN)] : List (Int × Bfn)).drop j |>.map Prod.snd)) 729) := Lib.hid (fun j => by
     rw [List.map_drop]
     exact allF_drop (by simp) (fun F hF => by
       rcases List.mem_cons.1 hF with rfl | hF
       ·show PSt 220 (samF (exW [0, 3])) 9
        exact (samF_st _).mono (show 4 ≤ 9 by decide)
       rcases List.mem_cons.1 hF with rfl | hF
       ·show PSt 220 (rgF 0 true t.o t.o) 9
        exact rgF_nine (by decide) _ _
       rcases List.mem_cons.1 hF with rfl | hF
       ·show PSt 220 (rgF 3 true opN opN) 9
        exact rgF_nine (by decide) _ _
       cases hF) j)
    have CC13 := Lib.hid (all_ok (s := 729) [(r9, samF (exW [0, 3])), (r10, rgF 0 true t.o t.o), (r11, rgF 3 true opN opN)] (by simp) (by simp) MM12.out G12.out.rep G12.out.qk G12.out.gl G12.out.off (dv := .slice (some ⟨z12, 0, none⟩) 3 3) SRC12.out NL12.out PP12.out (by (try simp only [List.length_cons, List.length_nil, Nat.zero_add, Nat.reduceAdd]); have := HC.out; have := HSC.out; omega))
    refine op1 14 (fun K hK => ?_)
    go_simp
    go_at_call 27
    refine CC13.out.mono ?_
    intro e y13 o
    obtain ⟨r13, M13, L13, rfl, _, g, kk, ff, kr⟩ := G12.out.stepK o
    have D13 := Lib.hid (D12.out.step CT.out G12.out.rep kk ff kr)
    have G13 := Lib.hid g
    clear o g kk ff kr CC13
    go_wp2_with fail
    refine hK.out _ _ D13.out.T (fun hHeld => ?_)
    clear hK K hS
    have hS := hHeld
    clear hHeld
    try simp only [Act.put, List.setIfInBounds_toArray, List.set_cons_zero, List.set_cons_succ]
    refine tkS 15 DSE.out hS ?_
    refine wpAnyH_done (by kernel_rfl) ?_ _
    clear hS
    have u2 := D13.out.T.1
    have lc := D13.out.c
    have lz := D13.out.z
    have CC14 := Lib.hid (IteQ G13.out.rep G13.out.qk (List.Mem.tail _ (List.Mem.tail _ (List.Mem.tail _ (List.Mem.tail _ (List.Mem.head _))))) (List.Mem.head _) (List.Mem.tail _ (List.Mem.tail _ (List.Mem.tail _ (List.Mem.tail _ (List.Mem.tail _ (List.Mem.tail _ (List.Mem.tail _ (List.Mem.tail _ (List.Mem.head _))))))))) PSI.out (by (try simp only [List.length_cons, List.length_nil, Nat.zero_add, Nat.reduceAdd]); have := HC.out; have := HSC.out; omega))
    gi_wp2_with fail
    refine ⟨trivial, CallsIn.mono (calls_round CC14.out (fun _ _ h => h)) ?_⟩
    intro e y14 o
    obtain ⟨r14, M14, L14, rfl, _, g, kk, ff, kr⟩ := G13.out.stepK o
    have D14 := Lib.hid (D13.out.step CT.out G13.out.rep kk ff kr)
    have G14 := Lib.hid g
    clear o g kk ff kr CC14
    clear u2 lc lz
    have lc := D14.out.c
    have lz := D14.out.z
    have RES : Hid (KeepsRec y0 (y14.setCell ⟨w1.heap.size, 0, none⟩ (.int .i64 r14)) ∧ BkR (w1.heap.size + 1) b y0 (y14.setCell ⟨w1.heap.size, 0, none⟩ (.int .i64 r14)) ∧ SrcI w W0 p c w.heap.size w1.heap.size cs L L1 B es (pre ++ [ts.length - 1 - pre.length]) (y14.setCell ⟨w1.heap.size, 0, none⟩ (.int .i64 r14))) := Lib.hid (by
     obtain ⟨a1, a2, a3, a4, a5, a6, a7⟩ := D14.out.fin CT.out G14.out (by have := HWF.out; omega) GLT.out (by omega) (by have := HBF.out; omega) r14
     refine ⟨a1, a2, r14, M14, L14, ?_, a4, a5, a6, a7⟩
     rw [DR1.out]
     refine ((a3.cong EQ.out).sub (fun x hx => ?_)).mono (by rw [show (pre ++ [ts.length - 1 - pre.length]).length = pre.length + 1 from by simp, SC_succ]; (try simp only [List.length_cons, List.length_nil, Nat.zero_add, Nat.reduceAdd]); have := HSC.out; omega)
     rcases List.mem_cons.1 hx with rfl | hx
     ·exact .head _
     ·exact (.tail _ (.tail _ (.tail _ (.tail _ (.tail _ (.tail _ (.tail _ (.tail _ (.tail _ (.tail _ hx)))))))))))
    gi_wp2
    exact RES.out
 case done =>
  rintro D W hD ⟨r, M', L', h, ⟨fr, hsW⟩, b1, b2, b3⟩ hK
  have c2 : W.cell? ⟨w1.heap.size, 0, none⟩ = some (.int .i64 r) := by rw [cell_of_row _ _ _ _ _ _ b3]; rfl
  rw [bkN_len, ESL.out, Nat.sub_self, List.drop_zero] at h
  have hcost : c + 20000000 + SC ts.length ≤ c + 260000000000 := by have := SC_all hts; omega
  have RET : Hid (OpQ p 220 (c + 260000000000) L w (srcF (ts.map (Tr.ent (acG acs)))) B (.returned (.int .i64 r)) (W.putObj D (.deferred none))) := Lib.hid (by
   rw [← ES.out]
   exact (h.put (by omega) hK rfl _).ret (.head _) (fun x hx => .tail _ hx) hcost)
  clear h
  go_wp2
  refine ⟨by simp, .inl ⟨_, _, rfl, run_takeDeferred hK, ?_⟩⟩
  refine ⟨_, results_tmp rfl _ _ _, ?_⟩
  exact RET.out

end Go.Proofs.YtdgnbbmgcgfibaaGreatDoor

namespace Go.Proofs.YtdgnbbmgcgfibaaGreatDoor
open Go.RowKit

def pkI : Pkt := ⟨0, 335544321, 0, 0, 0⟩
def pkO : Pkt := ⟨0, 167772161, 0, 0, 0⟩
theorem pkI_ok : pkI.ok := ⟨by decide, by decide, by decide, by decide, by decide⟩
theorem pkO_ok : pkO.ok := ⟨by decide, by decide, by decide, by decide, by decide⟩
def trOne : Tr := ⟨1, 167772161, 335544321, 0, 0, 0, ⟨#[]⟩, 0, 0⟩
theorem trOne_ok : ∀ t, t ∈ [trOne] → t.ok := fun t ht => by
 rw [List.mem_singleton] at ht
 subst ht
 exact ⟨.inl rfl, by decide, by decide, by decide, by decide⟩
theorem TrOne.at {y : World} {b : Nat} (h : TrOne y b) : TrAt y b 0 trOne := by
 refine ⟨?_, ?_, ?_, ?_, ?_, ?_, ?_, ?_, ?_⟩ <;> (rw [cell_of_row _ _ _ _ _ _ h]; rfl)
theorem NatAt.one {y : World} {p b : Nat} {L : Lay} {M : Mgr} {cs : Array Value} (R : Rep y p M L) (h : TrOne y b) (c6 : cs[6]? = some (.slice (some ⟨b, 0, none⟩) 1 1)) : NatAt y p L cs [trOne] :=
 ⟨_, 1, c6, Nat.le_refl _, by decide, .inr ⟨b, 0, rfl, heap_lt h, R.notTr h, fun j t hj => by
  match j, hj with
  | 0, hj => cases hj; exact h.at⟩⟩
theorem AcAt.none {y : World} {p : Nat} {L : Lay} {cs : Array Value} (c5 : cs[5]? = some (.slice none 0 0)) : AcAt y p L cs [] := ⟨_, 0, c5, Nat.le_refl _, by decide, .inl rfl⟩
theorem dst_one {ac : ByteArray → List Ru} {p q : Pkt} (hp : p.ok) (hq : q.ok) {b : Bool} (h : (q = pkDst [trOne] p) ↔ b = true) : (dstF ([trOne].map (Tr.ent ac))) (asg (gL (encF (fun _ => false) p q))) = b := by
 rw [Bool.eq_iff_iff, ← h]
 exact dst_enc ac [trOne] trOne_ok hp hq
theorem src_one {ac : ByteArray → List Ru} {p q : Pkt} (hp : p.ok) (hq : q.ok) {b : Bool} (h : (q ∈ pkSrc ac [trOne] p) ↔ b = true) : (srcF ([trOne].map (Tr.ent ac))) (asg (gL (encF (fun _ => false) p q))) = b := by
 rw [Bool.eq_iff_iff, ← h]
 exact src_enc ac [trOne] trOne_ok hp hq
theorem Qk.nz {n c : Nat} {M : Mgr} {B : List (Int × Bfn)} {r : Int} {F : Bfn} (q : Qk n c M B) (h : (r, F) ∈ B) {a : Nat → Bool} (ha : F a = true) : r ≠ 0 := fun e => by
 obtain ⟨_, s⟩ := q.at h
 have t := s a
 rw [e, ha] at t
 have : M.sem 0 a = false := Mgr.sem_zero M a
 rw [show (0 : Int).toNat = 0 from rfl, this] at t
 cases t
def KbS (rb ib : Nat) (cs : Array Value) (y : World) : Prop := y.heap[rb]? = some (.cells cs 41 (0, 0)) ∧ (y.cell? ⟨ib, 0, none⟩ = some (.int .u32 0) ∧ y.cell? ⟨ib, 1, none⟩ = some (.int .u32 335544321) ∧ y.cell? ⟨ib, 2, none⟩ = some (.int .i64 0) ∧ y.cell? ⟨ib, 3, none⟩ = some (.int .i64 0) ∧ y.cell? ⟨ib, 4, none⟩ = some (.int .i64 0)) ∧ (y.cell? ⟨ib + 1, 0, none⟩ = some (.int .u32 0) ∧ y.cell? ⟨ib + 1, 1, none⟩ = some (.int .u32 167772161) ∧ y.cell? ⟨ib + 1, 2, none⟩ = some (.int .i64 0) ∧ y.cell? ⟨ib + 1, 3, none⟩ = some (.int .i64 0) ∧ y.cell? ⟨ib + 1, 4, none⟩ = some (.int .i64 0))
theorem KbS.of {W y : World} {A : Nat → Prop} {rb ib : Nat} {cs : Array Value} (k : Kp A W y) (h1 : W.heap[rb]? = some (.cells cs 41 (0, 0))) (a1 : ¬ A rb) (h2 : W.heap[ib]? = some (.cells #[.int .u32 0, .int .u32 335544321, .int .i64 0, .int .i64 0, .int .i64 0] 70 (0, 0))) (a2 : ¬ A ib) (h3 : W.heap[ib + 1]? = some (.cells #[.int .u32 0, .int .u32 167772161, .int .i64 0, .int .i64 0, .int .i64 0] 70 (0, 0))) (a3 : ¬ A (ib + 1)) : KbS rb ib cs y := by
 have e2 := (k.block _ (heap_lt h2) a2).trans h2
 have e3 := (k.block _ (heap_lt h3) a3).trans h3
 refine ⟨(k.block _ (heap_lt h1) a1).trans h1, ⟨?_, ?_, ?_, ?_, ?_⟩, ?_, ?_, ?_, ?_, ?_⟩ <;> first | (rw [cell_of_row _ _ _ _ _ _ e2]; rfl) | (rw [cell_of_row _ _ _ _ _ _ e3]; rfl)

set_option maxRecDepth 1000000 in
set_option maxHeartbeats 16000000 in
theorem tawake_ok {w : World} (g : Gl w) : Calls Tryz.prog 5 #[] w fun e w' => e = .returned (.bool true) ∧ Kp No w w' := by
 have GLW := Lib.hid g
 have t0 : TrOne (w.alloc (.cells #[.int .i64 1, .int .u32 167772161, .int .u32 335544321, .int .i64 0, .int .i64 0, .int .i64 0, .string ⟨#[]⟩, .int .u32 0, .int .u32 0] 66)) w.heap.size := heap_alloc_new _ _
 have k0 : Kp No w (w.alloc (.cells #[.int .i64 1, .int .u32 167772161, .int .u32 335544321, .int .i64 0, .int .i64 0, .int .i64 0, .string ⟨#[]⟩, .int .u32 0, .int .u32 0] 66)) := Kp.alloc _
 have z0 : (w.alloc (.cells #[.int .i64 1, .int .u32 167772161, .int .u32 335544321, .int .i64 0, .int .i64 0, .int .i64 0, .string ⟨#[]⟩, .int .u32 0, .int .u32 0] 66)).heap.size = w.heap.size + 1 := by simp
 clear g
 go_enter Tryz.func5, Tryz.ntmps5
 go_upto_region 2 with (first | (refine wpList_store_row rfl 41 _ _ rfl (w.heap.size + 1) (oneC w.heap.size) rfl rfl 41 _ (heap_alloc2_new _ _ _) (by kernel_rfl) (by kernel_rfl) (by kernel_rfl) ?_))
 as_aux_lemma =>
  simp only [Act.put]
  generalize w.alloc (.cells #[.int .i64 1, .int .u32 167772161, .int .u32 335544321, .int .i64 0, .int .i64 0, .int .i64 0, .string ⟨#[]⟩, .int .u32 0, .int .u32 0] 66) = X0 at *
  generalize hcs : (#[.string ⟨#[114]⟩, .int .i64 0, .slice none 0 0, .slice none 0 0, .slice none 0 0, .slice none 0 0, .slice (some ⟨w.heap.size, 0, none⟩) 1 1, .slice none 0 0, .bool false, .int .i64 0, .slice none 0 0, .slice none 0 0, .bool false, .int .i64 0, .string ⟨#[]⟩, .string ⟨#[]⟩, .slice none 0 0, .bool false, .int .i64 0, .int .i64 0, .slice none 0 0, .slice none 0 0, .slice none 0 0, .slice none 0 0, .slice none 0 0] : Array Value) = cs at *
  have hc2 : oneC w.heap.size = cs := hcs
  rw [hc2]
  have ok : OneR cs w.heap.size := hcs ▸ OneR.of _
  have h0 := heap_alloc_new X0 (.cells #[.string ⟨#[]⟩, .int .i64 0, .slice none 0 0, .slice none 0 0, .slice none 0 0, .slice none 0 0, .slice none 0 0, .slice none 0 0, .bool false, .int .i64 0, .slice none 0 0, .slice none 0 0, .bool false, .int .i64 0, .string ⟨#[]⟩, .string ⟨#[]⟩, .slice none 0 0, .bool false, .int .i64 0, .int .i64 0, .slice none 0 0, .slice none 0 0, .slice none 0 0, .slice none 0 0, .slice none 0 0] 41)
  have k0' : Kp No X0 (X0.alloc (.cells #[.string ⟨#[]⟩, .int .i64 0, .slice none 0 0, .slice none 0 0, .slice none 0 0, .slice none 0 0, .slice none 0 0, .slice none 0 0, .bool false, .int .i64 0, .slice none 0 0, .slice none 0 0, .bool false, .int .i64 0, .string ⟨#[]⟩, .string ⟨#[]⟩, .slice none 0 0, .bool false, .int .i64 0, .int .i64 0, .slice none 0 0, .slice none 0 0, .slice none 0 0, .slice none 0 0, .slice none 0 0] 41)) := Kp.alloc _
  have z0' : (X0.alloc (.cells #[.string ⟨#[]⟩, .int .i64 0, .slice none 0 0, .slice none 0 0, .slice none 0 0, .slice none 0 0, .slice none 0 0, .slice none 0 0, .bool false, .int .i64 0, .slice none 0 0, .slice none 0 0, .bool false, .int .i64 0, .string ⟨#[]⟩, .string ⟨#[]⟩, .slice none 0 0, .bool false, .int .i64 0, .int .i64 0, .slice none 0 0, .slice none 0 0, .slice none 0 0, .slice none 0 0, .slice none 0 0] 41)).heap.size = w.heap.size + 2 := by simp [z0]
  rw [z0] at h0
  generalize X0.alloc (.cells #[.string ⟨#[]⟩, .int .i64 0, .slice none 0 0, .slice none 0 0, .slice none 0 0, .slice none 0 0, .slice none 0 0, .slice none 0 0, .bool false, .int .i64 0, .slice none 0 0, .slice none 0 0, .bool false, .int .i64 0, .string ⟨#[]⟩, .string ⟨#[]⟩, .slice none 0 0, .bool false, .int .i64 0, .int .i64 0, .slice none 0 0, .slice none 0 0, .slice none 0 0, .slice none 0 0, .slice none 0 0] 41) = X1 at *
  have h1 := setRow_heap X1 _ _ cs _ _ h0
  have k1 : Kp No X0 (X1.setRow (w.heap.size + 1) cs) := k0'.trans (A' := fun k => k = w.heap.size + 1) (fun k e => .inr (by omega)) (Kp.setRow _ _ _)
  have z1 : (X1.setRow (w.heap.size + 1) cs).heap.size = w.heap.size + 2 := by simp [z0']
  have t1 := t0.no k1
  have OK := Lib.hid ok
  have CSZ := Lib.hid ok.sz
  clear h0 k0' z0' hc2
  generalize X1.setRow (w.heap.size + 1) cs = X at *
  have K1 := Lib.hid (k0.trans_no k1)
  have R1 := Lib.hid h1
  have T1 := Lib.hid t1
  have Z1 := Lib.hid z1
  have NEW := Lib.hid (HNew_ok X)
  clear hcs ok h1 k1 t1 z1 t0 k0 z0
  as_aux_lemma =>
   go_wp2_with fail
   refine NEW.out.mono ?_
   rintro e w1 ⟨p, L, rfl, RR, k2, o2⟩
   have H0 := Lib.hid (hf_new GLW.out K1.out RR k2 o2)
   have LO : Hid (∀ x, L.at p x → w.heap.size + 2 ≤ x) := Lib.hid (fun x hx => by have := o2 x hx; have := Z1.out; omega)
   have LH : Hid (∀ x, L.at p x → x < w1.heap.size) := Lib.hid (fun x hx => RR.lt _ hx)
   have K2 := Lib.hid (K1.out.trans_no k2)
   have R2 := Lib.hid ((k2.block _ (heap_lt R1.out) (fun h => h)).trans R1.out)
   have T2 := Lib.hid (T1.out.no k2)
   clear RR k2 o2 NEW
   have CR := Lib.hid (CheckRouter_one cs w.heap.size w1 OK.out T2.out)
   go_upto_region 3 with fail
   go_wp2_with (first | (refine wpList_load_rt rfl _ rfl (w.heap.size + 1) rfl cs CSZ.out R2.out ?_))
   refine CR.out.mono ?_
   rintro e w2 ⟨rfl, k3⟩
   have H1 := Lib.hid (H0.out.no k3)
   have K3 := Lib.hid (K2.out.trans_no k3)
   have R3 := Lib.hid ((k3.block _ (heap_lt R2.out) (fun h => h)).trans R2.out)
   have T3 := Lib.hid (T2.out.no k3)
   have LH3 : Hid (∀ x, L.at p x → x < w2.heap.size) := Lib.hid (fun x hx => Nat.lt_of_lt_of_le (LH.out x hx) k3.size)
   clear k3 CR H0
   go_upto_region 6 with fail
   have b4 := heap_alloc_new w2 (.cells #[.int .u32 0, .int .u32 335544321, .int .i64 0, .int .i64 0, .int .i64 0] 70)
   have k4 : Kp No w2 (w2.alloc (.cells #[.int .u32 0, .int .u32 335544321, .int .i64 0, .int .i64 0, .int .i64 0] 70)) := Kp.alloc _
   have z4 : (w2.alloc (.cells #[.int .u32 0, .int .u32 335544321, .int .i64 0, .int .i64 0, .int .i64 0] 70)).heap.size = w2.heap.size + 1 := by simp
   generalize w2.alloc (.cells #[.int .u32 0, .int .u32 335544321, .int .i64 0, .int .i64 0, .int .i64 0] 70) = w4 at *
   have b5 := heap_alloc_new w4 (.cells #[.int .u32 0, .int .u32 167772161, .int .i64 0, .int .i64 0, .int .i64 0] 70)
   rw [z4] at b5
   have k5 : Kp No w4 (w4.alloc (.cells #[.int .u32 0, .int .u32 167772161, .int .i64 0, .int .i64 0, .int .i64 0] 70)) := Kp.alloc _
   generalize w4.alloc (.cells #[.int .u32 0, .int .u32 167772161, .int .i64 0, .int .i64 0, .int .i64 0] 70) = W at *
   have b4' := (k5.block _ (heap_lt b4) (fun h => h)).trans b4
   have k6 := k4.trans_no k5
   have H2 := Lib.hid (H1.out.no k6).rebase
   have KW := Lib.hid (K3.out.trans_no k6)
   have RW := Lib.hid ((k6.block _ (heap_lt R3.out) (fun h => h)).trans R3.out)
   have TW := Lib.hid (T3.out.no k6)
   have hl3 := heap_lt R3.out
   have SF0 : Hid (∀ y, Kp (L.at p) W y → KbS (w.heap.size + 1) w2.heap.size cs y) := Lib.hid (fun y k => KbS.of k RW.out (fun h => by have := LO.out _ h; omega) b4' (fun h => by have := LH3.out _ h; omega) b5 (fun h => by have := LH3.out _ h; omega))
   have TF0 : Hid (∀ y, Kp (L.at p) W y → TrOne y w.heap.size) := Lib.hid (fun y k => (k.block _ (heap_lt TW.out) (fun h => by have := LO.out _ h; omega)).trans TW.out)
   have SF : Hid (∀ y, Kp (L.at p) W.drew y → KbS (w.heap.size + 1) w2.heap.size cs y) := Lib.hid (fun y k => SF0.out y ((Kp.drew (w := W)).no_trans k))
   have TF : Hid (∀ y, Kp (L.at p) W.drew y → TrOne y w.heap.size) := Lib.hid (fun y k => TF0.out y ((Kp.drew (w := W)).no_trans k))
   have ENC : Hid (∀ (a b : Pkt), a.in32 → b.in32 → ∀ y : World, Gl y → Calls Tryz.prog 22 #[.slice none 0 0, pktV a, pktV b] y (EncPost y (encF (fun _ => false) a b))) := Lib.hid (fun a b ha hb y h => by
    have e : dnF [] = fun _ => false := by funext v; simp [dnF]
    have := Encode_ok [] a b ha hb h (dv := .slice none 0 0) ⟨none, 0, rfl, rfl, .inl rfl⟩ (by simp)
    rw [e] at this
    exact this)
   unfold pktV at ENC
   have H3 := Lib.hid (H2.out.no (Kp.drew (w := W))).rebase
   have KD := Lib.hid (KW.out.trans_no (Kp.drew (w := W)))
   refine wp_region_held_drew (S := KbS (w.heap.size + 1) w2.heap.size cs) (by kernel_rfl) (SF.out _ (Kp.refl _ _)) (fun hS => ?_)
   generalize W.drew = y3 at *
   clear b4 b4' b5 k4 k5 k6 z4 hl3 H1 H2
   as_aux_lemma =>
    refine tk 0 hS ?_
    refine tk 1 hS ?_
    refine tk 2 (v := .agg cs) hS ?_ (hy := (yields_load_rt (by kernel_rfl) _ rfl (w.heap.size + 1) rfl cs CSZ.out (fun _ h => h.1)))
    refine tk 4 hS ?_
    refine tk 5 hS ?_
    have CC4 := Lib.hid (Dest_ok cs CSZ.out [trOne] (fun _ => []) (by decide) trOne_ok (fun _ _ => by decide) H3.out.rep H3.out.qk H3.out.gl H3.out.off (NatAt.one H3.out.rep (TF.out _ H3.out.sd.kp) OK.out.c6) (by omega))
    refine op1 3 (fun K hK => ?_)
    go_simp
    go_at_call 9
    refine CC4.out.mono ?_
    intro e y4 o
    obtain ⟨r4, M4, L4, rfl, nn4, g⟩ := H3.out.step o
    have H4 := Lib.hid g
    have NN4 := Lib.hid nn4
    clear o g CC4 nn4
    go_wp2_with fail
    refine hK.out _ _ (SF.out _ H4.out.sd.kp) (fun hHeld => ?_)
    clear hK K hS
    have hS := hHeld
    clear hHeld
    try simp only [Act.put, List.setIfInBounds_toArray, List.set_cons_zero, List.set_cons_succ]
    have CC5 := Lib.hid (ENC.out pkI pkO pkI_ok.in32 pkO_ok.in32 y4 H4.out.gl)
    refine op1 6 (fun K hK => ?_)
    go_simp
    go_at_call 22
    refine CC5.out.mono ?_
    rintro e y5 ⟨g5, rfl, row, k⟩
    have H5 := Lib.hid (H4.out.no k)
    have ROW5 := Lib.hid (bools_row row)
    clear row k CC5
    go_wp2_with fail
    refine hK.out _ _ (SF.out _ H5.out.sd.kp) (fun hHeld => ?_)
    clear hK K hS
    have hS := hHeld
    clear hHeld
    try simp only [Act.put, List.setIfInBounds_toArray, List.set_cons_zero, List.set_cons_succ]
    have CC6 := Lib.hid (EvalQ H5.out.rep H5.out.qk (List.Mem.head _) ROW5.out)
    rw [show (dstF ([trOne].map (Tr.ent fun _ => []))) (asg (gL (encF (fun _ => false) pkI pkO))) = true from dst_one pkI_ok pkO_ok ⟨fun _ => rfl, fun _ => rfl⟩] at CC6
    refine op1 7 (fun K hK => ?_)
    go_simp
    go_at_call 21
    refine CC6.out.mono ?_
    rintro e y6 ⟨rfl, k⟩
    have H6 := Lib.hid (H5.out.no k)
    clear k CC6
    go_wp2_with fail
    refine hK.out _ _ (SF.out _ H6.out.sd.kp) (fun hHeld => ?_)
    clear hK K hS
    have hS := hHeld
    clear hHeld
    try simp only [Act.put, List.setIfInBounds_toArray, List.set_cons_zero, List.set_cons_succ]
    refine tk 8 (v := .bool true) hS ?_ (hy := (by refine Or.inl ⟨by rfl, fun w hSw => ?_⟩; (try unfold KbS at hSw); (try dsimp only at hSw); go_simp; first | done | rfl))
    as_aux_lemma =>
     refine tk 9 hS ?_
     refine tk 10 hS ?_
     refine tk 11 (v := .agg cs) hS ?_ (hy := (yields_load_rt (by kernel_rfl) _ rfl (w.heap.size + 1) rfl cs CSZ.out (fun _ h => h.1)))
     refine tk 13 hS ?_
     refine tk 14 hS ?_
     have CC7 := Lib.hid (Dest_ok cs CSZ.out [trOne] (fun _ => []) (by decide) trOne_ok (fun _ _ => by decide) H6.out.rep H6.out.qk H6.out.gl H6.out.off (NatAt.one H6.out.rep (TF.out _ H6.out.sd.kp) OK.out.c6) (by omega))
     refine op1 12 (fun K hK => ?_)
     go_simp
     go_at_call 9
     refine CC7.out.mono ?_
     intro e y7 o
     obtain ⟨r7, M7, L7, rfl, nn7, g⟩ := H6.out.step o
     have H7 := Lib.hid g
     have NN7 := Lib.hid nn7
     clear o g CC7 nn7
     go_wp2_with fail
     refine hK.out _ _ (SF.out _ H7.out.sd.kp) (fun hHeld => ?_)
     clear hK K hS
     have hS := hHeld
     clear hHeld
     try simp only [Act.put, List.setIfInBounds_toArray, List.set_cons_zero, List.set_cons_succ]
     have CC8 := Lib.hid (ENC.out pkI pkI pkI_ok.in32 pkI_ok.in32 y7 H7.out.gl)
     refine op1 15 (fun K hK => ?_)
     go_simp
     go_at_call 22
     refine CC8.out.mono ?_
     rintro e y8 ⟨g8, rfl, row, k⟩
     have H8 := Lib.hid (H7.out.no k)
     have ROW8 := Lib.hid (bools_row row)
     clear row k CC8
     go_wp2_with fail
     refine hK.out _ _ (SF.out _ H8.out.sd.kp) (fun hHeld => ?_)
     clear hK K hS
     have hS := hHeld
     clear hHeld
     try simp only [Act.put, List.setIfInBounds_toArray, List.set_cons_zero, List.set_cons_succ]
     have CC9 := Lib.hid (EvalQ H8.out.rep H8.out.qk (List.Mem.head _) ROW8.out)
     rw [show (dstF ([trOne].map (Tr.ent fun _ => []))) (asg (gL (encF (fun _ => false) pkI pkI))) = false from dst_one pkI_ok pkI_ok ⟨fun h => absurd (congrArg Pkt.dst h) (by decide), fun h => by cases h⟩] at CC9
     refine op1 16 (fun K hK => ?_)
     go_simp
     go_at_call 21
     refine CC9.out.mono ?_
     rintro e y9 ⟨rfl, k⟩
     have H9 := Lib.hid (H8.out.no k)
     clear k CC9
     go_wp2_with fail
     refine hK.out _ _ (SF.out _ H9.out.sd.kp) (fun hHeld => ?_)
     clear hK K hS
     have hS := hHeld
     clear hHeld
     try simp only [Act.put, List.setIfInBounds_toArray, List.set_cons_zero, List.set_cons_succ]
     refine tk 17 hS ?_
     refine tk 18 hS ?_
     refine tk 19 (v := .bool true) hS ?_ (hy := (by refine Or.inl ⟨by rfl, fun w hSw => ?_⟩; (try unfold KbS at hSw); (try dsimp only at hSw); go_simp; first | done | rfl))
     as_aux_lemma =>
      refine tk 20 hS ?_
      refine tk 21 hS ?_
      refine tk 22 (v := .agg cs) hS ?_ (hy := (yields_load_rt (by kernel_rfl) _ rfl (w.heap.size + 1) rfl cs CSZ.out (fun _ h => h.1)))
      refine tk 24 hS ?_
      refine tk 25 hS ?_
      have CC10 := Lib.hid (Source_ok cs CSZ.out [trOne] [] (fun _ h => by cases h) (fun _ h => by cases h) (by decide) trOne_ok H9.out.rep H9.out.qk H9.out.gl H9.out.off (NatAt.one H9.out.rep (TF.out _ H9.out.sd.kp) OK.out.c6) (AcAt.none OK.out.c5) (by omega))
      refine op1 23 (fun K hK => ?_)
      go_simp
      go_at_call 10
      refine CC10.out.mono ?_
      intro e y10 o
      obtain ⟨r10, M10, L10, rfl, nn10, g⟩ := H9.out.step o
      have H10 := Lib.hid g
      have NN10 := Lib.hid nn10
      clear o g CC10 nn10
      go_wp2_with fail
      refine hK.out _ _ (SF.out _ H10.out.sd.kp) (fun hHeld => ?_)
      clear hK K hS
      have hS := hHeld
      clear hHeld
      try simp only [Act.put, List.setIfInBounds_toArray, List.set_cons_zero, List.set_cons_succ]
      have CC11 := Lib.hid (ENC.out pkI pkI pkI_ok.in32 pkI_ok.in32 y10 H10.out.gl)
      refine op1 26 (fun K hK => ?_)
      go_simp
      go_at_call 22
      refine CC11.out.mono ?_
      rintro e y11 ⟨g11, rfl, row, k⟩
      have H11 := Lib.hid (H10.out.no k)
      have ROW11 := Lib.hid (bools_row row)
      clear row k CC11
      go_wp2_with fail
      refine hK.out _ _ (SF.out _ H11.out.sd.kp) (fun hHeld => ?_)
      clear hK K hS
      have hS := hHeld
      clear hHeld
      try simp only [Act.put, List.setIfInBounds_toArray, List.set_cons_zero, List.set_cons_succ]
      have CC12 := Lib.hid (EvalQ H11.out.rep H11.out.qk (List.Mem.head _) ROW11.out)
      rw [show (srcF ([trOne].map (Tr.ent (acG [])))) (asg (gL (encF (fun _ => false) pkI pkI))) = true from src_one pkI_ok pkI_ok ⟨fun _ => rfl, fun _ => List.Mem.head _⟩] at CC12
      refine op1 27 (fun K hK => ?_)
      go_simp
      go_at_call 21
      refine CC12.out.mono ?_
      rintro e y12 ⟨rfl, k⟩
      have H12 := Lib.hid (H11.out.no k)
      clear k CC12
      go_wp2_with fail
      refine hK.out _ _ (SF.out _ H12.out.sd.kp) (fun hHeld => ?_)
      clear hK K hS
      have hS := hHeld
      clear hHeld
      try simp only [Act.put, List.setIfInBounds_toArray, List.set_cons_zero, List.set_cons_succ]
      refine tk 28 hS ?_
      refine tk 29 (v := .bool true) hS ?_ (hy := (by refine Or.inl ⟨by rfl, fun w hSw => ?_⟩; (try unfold KbS at hSw); (try dsimp only at hSw); go_simp; first | done | rfl))
      as_aux_lemma =>
       refine tk 30 hS ?_
       have CC13 := Lib.hid (TId_ok H12.out.rep H12.out.qk H12.out.gl H12.out.off (by omega))
       refine op1 31 (fun K hK => ?_)
       go_simp
       go_at_call 11
       refine CC13.out.mono ?_
       intro e y13 o
       obtain ⟨r13, M13, L13, rfl, nn13, g⟩ := H12.out.step o
       have H13 := Lib.hid g
       have NN13 := Lib.hid nn13
       clear o g CC13 nn13
       go_wp2_with fail
       refine hK.out _ _ (SF.out _ H13.out.sd.kp) (fun hHeld => ?_)
       clear hK K hS
       have hS := hHeld
       clear hHeld
       try simp only [Act.put, List.setIfInBounds_toArray, List.set_cons_zero, List.set_cons_succ]
       have hnz : r13 ≠ 0 := H13.out.qk.nz (List.Mem.head _) ((sam_all pkI_ok pkI_ok).2 rfl)
       refine tk 32 (v := .bool true) hS ?_ (hy := (by refine Or.inl ⟨by rfl, fun w hSw => ?_⟩; (try unfold KbS at hSw); (try dsimp only at hSw); go_simp; first | done | simp [hnz]))
       refine tk 33 hS ?_
       refine tk 34 hS ?_
       refine wpAnyH_done (by kernel_rfl) ?_ _
       clear hS
       have KF := Lib.hid (H13.out.kpNo KD.out (fun x hx => by have := LO.out x hx; omega))
       go_wp2_with fail
       go_ret
       exact ⟨rfl, KF.out⟩

end Go.Proofs.YtdgnbbmgcgfibaaGreatDoor
