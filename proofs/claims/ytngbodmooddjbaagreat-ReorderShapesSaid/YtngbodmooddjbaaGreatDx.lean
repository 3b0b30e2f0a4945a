/-
  Walks: 'swap' of the diagram of reorder.
-/
import Derived.Test.YtngbodmooddjbaaGreatDi
import Derived.Test.YtngbodmooddjbaaGreatDdr
import Derived.Test.YtngbodmooddjbaaGreatRsw
import Derived.Shelf.Sort.Plain
import Derived.Shelf.Slices.In.SortNone
import Derived.Sort.OwnSortedInts
import Derived.Deep.CutBlock
import Derived.Deep.QuietTactic
import Derived.BigQuiet
import Derived.Outline
namespace Go.Proofs.YtngbodmooddjbaaGreat
open Go.RowKit
namespace Dg
section
variable {D : Dg} {k : Nat} {P E : List Nat} {S : Nat → Bfn} {Fs : List Bfn}

/-- What is known ahead of a round. -/
structure Rnd (D : Dg) (k i : Nat) (P : List Nat) (S : Nat → Bfn) (Fs : List Bfn) : Prop where
  hk : k + 1 < D.n
  hl : D.live i
  l0 : D.Low k (i :: P) (D.sp0 (D.nd i).2.1 (D.vr k))
  l1 : D.Low k (i :: P) (D.sp1 (D.nd i).2.1 (D.vr k))
  h0 : D.Low k (i :: P) (D.sp0 (D.nd i).2.2 (D.vr k))
  h1 : D.Low k (i :: P) (D.sp1 (D.nd i).2.2 (D.vr k))
  f0 : iteB (D.vr (k + 1)) (S (D.sp0 (D.nd i).2.2 (D.vr k))) (S (D.sp0 (D.nd i).2.1 (D.vr k))) = fun a => S i (Mgr.upd a (D.vr k) false)
  f1 : iteB (D.vr (k + 1)) (S (D.sp1 (D.nd i).2.2 (D.vr k))) (S (D.sp1 (D.nd i).2.1 (D.vr k))) = fun a => S i (Mgr.upd a (D.vr k) true)
  r : ∀ b, ∃ F, F ∈ Fs ∧ Rst F (fun a => S i (Mgr.upd a (D.vr k) b))
theorem Inv.rnd {i : Nat} (h : Inv D k (i :: P) E S Fs) : Rnd D k i P S Fs := by
  obtain ⟨hk, hl, hv, kl, kh, _⟩ := h.pk i (.head _)
  have m := h.nd i hl
  have xy := h.xy hk
  obtain ⟨a1, a2, a3, a4⟩ := h.split hk kl
  obtain ⟨b1, b2, b3, b4⟩ := h.split hk kh
  have vx : (D.nd i).1.toNat = D.vr (k + 1) := by rw [hv]; rfl
  refine ⟨hk, hl, a1, a2, b1, b2, ?_, ?_, fun b => ?_⟩
  · funext a
    rw [m.s]
    unfold iteB
    rw [b3, a3, vx, Mgr.upd_other a _ _ _ xy]
  · funext a
    rw [m.s]
    unfold iteB
    rw [b4, a4, vx, Mgr.upd_other a _ _ _ xy]
  · obtain ⟨F, hF, r⟩ := h.rs i hl
    exact ⟨F, hF, r.trans (Rst.upd (S i) _ b)⟩
/-- Behind the second 'use': the entry is not there yet, the cell is turned, its old children may be dropped. -/
structure Trn (D D2 : Dg) (k i A B : Nat) (P E : List Nat) (S S2 : Nat → Bfn) (Fs : List Bfn) : Prop where
  nd : D2.nd i = D.nd i
  li : D2.live i
  vr : D2.vr k = D.vr k
  vl : D.vr k < D2.n
  ord : D2.order = D.order
  tb : D2.tab (D.vr k) ((A : Int), (B : Int)) = none
  inv : Inv (D2.turn k i A B) k P ((D.nd i).2.1 :: (D.nd i).2.2 :: E) S2 Fs
  p1 : (D.nd i).2.1 ∉ P
  d1 : (D2.turn k i A B).live (D.nd i).2.1 → k ≤ (D2.turn k i A B).dep k P (D.nd i).2.1
  p2 : (D.nd i).2.2 ∉ P
  d2 : (D2.turn k i A B).live (D.nd i).2.2 → k ≤ (D2.turn k i A B).dep k P (D.nd i).2.2
  s : ∀ e, e ∈ E → S2 e = S e
theorem Inv.trn {i A B : Nat} (h : Inv D k (i :: P) E S Fs) {D1 D2 : Dg} {S1 S2 : Nat → Bfn}
    (u1 : UseP D k (i :: P) E S Fs (D.sp0 (D.nd i).2.1 (D.vr k)) (D.sp0 (D.nd i).2.2 (D.vr k)) D1 A S1)
    (u2 : UseP D1 k (i :: P) (A :: E) S1 Fs (D.sp1 (D.nd i).2.1 (D.vr k)) (D.sp1 (D.nd i).2.2 (D.vr k)) D2 B S2) : Trn D D2 k i A B P E S S2 Fs := by
  have R := h.rnd
  obtain ⟨hk, hl, hv, kl, kh, _⟩ := h.pk i (.head _)
  have m := h.nd i hl
  have oi : D.ok i := .inr hl
  have oi1 := (u1.old i oi).2.2
  have e1 : D2.nd i = D.nd i := by rw [(u2.old i oi1).1, (u1.old i oi).1]
  have eS : ∀ j, D.ok j → S2 j = S j := fun j hj => by rw [(u2.old j (u1.old j hj).2.2).2.1, (u1.old j hj).2.1]
  have ev : D2.vr k = D.vr k := by rw [u2.vr, u1.vr]
  have en : D2.n = D.n := by rw [u2.n, u1.n]
  have li : D2.live i := (u2.old i oi1).2.2.live hl.1
  have oA1 : D1.ok A := u1.inv.eok A (.head _)
  have oA : D2.ok A := (u2.old A oA1).2.2
  have oB : D2.ok B := u2.inv.eok B (.head _)
  have sA : S2 A = fun a => S2 i (Mgr.upd a (D2.vr k) false) := by
    rw [(u2.old A oA1).2.1, u1.fn, R.f0, eS i oi, ev]
  have sB : S2 B = fun a => S2 i (Mgr.upd a (D2.vr k) true) := by
    rw [u2.fn, u1.vr, (u1.old _ R.h1.o).2.1, (u1.old _ R.l1.o).2.1, R.f1, eS i oi, ev]
  have T := u2.inv.turn u1.rp u2.rp (by rw [u2.dep oA1]; exact u1.rd) u2.rd sA sB
  rw [e1] at T
  have ip : i ∉ P := (List.nodup_cons.1 h.pn).1
  have kd : ∀ c, D.kidP k (i :: P) c → c ∉ P ∧ ((D2.turn k i A B).live c → k ≤ (D2.turn k i A B).dep k P c) := fun c hc => by
    have cP : c ∉ i :: P := hc.2.1
    have ci : c ≠ i := fun e => cP (e ▸ .head _)
    have cP' : c ∉ P := fun x => cP (.tail _ x)
    refine ⟨cP', fun lc => ?_⟩
    have d0 : k ≤ D.dep k (i :: P) c := by
      rcases hc.2.2 with x | x
      · omega
      · rw [h.isY_dep hk x]; exact Nat.le_refl _
    have d2 : D2.dep k (i :: P) c = D.dep k (i :: P) c := by rw [u2.dep (u1.old c hc.1).2.2, u1.dep hc.1]
    have c2 : 2 ≤ c := lc.1
    have e3 : (D2.turn k i A B).dep k P c = D2.dep k (i :: P) c := by
      have q1 : (D2.turn k i A B).dep k P c = (D2.turn k i A B).pos ((D2.turn k i A B).nd c).1.toNat := by
        unfold Dg.dep
        rw [if_neg (show ¬ c < 2 by omega), if_neg cP']
      have q2 : D2.dep k (i :: P) c = D2.pos (D2.nd c).1.toNat := by
        unfold Dg.dep
        rw [if_neg (show ¬ c < 2 by omega), if_neg cP]
      rw [q1, q2]
      show (D2.turn k i A B).pos ((putN D2.nd i ((D2.vr k : Int), A, B)) c).1.toNat = _
      rw [putN_other _ _ ci]; rfl
    rw [e3, d2]; exact d0
  refine ⟨e1, li, ev, ?_, u2.ord.trans u1.ord, ?_, T, (kd _ kl).1, (kd _ kl).2, (kd _ kh).1, (kd _ kh).2, fun e he => eS e (h.eok e he)⟩
  · rw [en]; exact h.vr_lt (by omega)
  · cases ht : D2.tab (D.vr k) ((A : Int), (B : Int)) with
    | none => rfl
    | some j =>
      exfalso
      obtain ⟨jl, jP, jv, jp⟩ := (u2.inv.tb _ (by rw [en]; exact h.vr_lt (by omega)) _ _).1 ht
      rw [Prod.mk.injEq] at jp
      have q := u2.inv.nd j jl
      have e1' : (D2.nd j).2.1 = A := by have := jp.1; omega
      have e2' : (D2.nd j).2.2 = B := by have := jp.2; omega
      have sI : S2 i = iteB (D2.vr k) (S2 B) (S2 A) := by
        funext a
        unfold iteB
        have eA : S2 A a = S2 i (Mgr.upd a (D2.vr k) false) := by rw [sA]
        have eB : S2 B a = S2 i (Mgr.upd a (D2.vr k) true) := by rw [sB]
        rw [eA, eB]
        cases c : a (D2.vr k)
        · rw [if_neg (by simp), ← c, updO_self]
        · rw [if_pos rfl, ← c, updO_self]
      have : S2 j = S2 i := by rw [sI, q.s, e1', e2', jv, Int.toNat_natCast, ev]
      have := u2.inv.inj j i (.inr jl) (.inr li) this
      exact jP (this ▸ .head _)
/-- What a round leaves. -/
theorem Trn.done {i A B : Nat} {D2 D3 D4 : Dg} {S2 : Nat → Bfn} (t : Trn D D2 k i A B P E S S2 Fs) (p3 : DropP (D2.turn k i A B) k P ((D.nd i).2.2 :: E) S2 Fs D3) (p4 : DropP D3 k P E S2 Fs D4) :
    Inv D4 k P E S2 Fs ∧ D4.order = D.order ∧ ∀ e, e ∈ E → S2 e = S e :=
  ⟨p4.inv, p4.ord.trans (p3.ord.trans t.ord), t.s⟩
theorem Trn.d3 {i A B : Nat} {D2 D3 : Dg} {S2 : Nat → Bfn} (t : Trn D D2 k i A B P E S S2 Fs) (p3 : DropP (D2.turn k i A B) k P ((D.nd i).2.2 :: E) S2 Fs D3) : D3.live (D.nd i).2.2 → k ≤ D3.dep k P (D.nd i).2.2 := fun h => by
  rw [p3.dep]
  exact t.d2 ((p3.ok _ (.inr h)).live h.1)
end

/-! ### the entries that are taken out -/
theorem swap0_nil (D : Dg) (k : Nat) : D.swap0 k [] = { D with order := swO D.order k } := by
  unfold swap0
  have : (fun v p => if v = D.vr k ∧ D.hitP [] p = true then none else D.tab v p) = D.tab := by
    funext v p
    rw [if_neg (fun h => by have := h.2; simp [hitP] at this)]
  rw [this]
theorem swap0_snoc (D : Dg) (k i : Nat) (P : List Nat) : { D.swap0 k P with tab := updT (D.swap0 k P).tab (D.vr k) (((D.nd i).2.1 : Int), ((D.nd i).2.2 : Int)) none } = D.swap0 k (P ++ [i]) := by
  have key : updT (D.swap0 k P).tab (D.vr k) (((D.nd i).2.1 : Int), ((D.nd i).2.2 : Int)) none = (D.swap0 k (P ++ [i])).tab := by
    funext v p
    show (if v = D.vr k ∧ p = (((D.nd i).2.1 : Int), ((D.nd i).2.2 : Int)) then none else if v = D.vr k ∧ D.hitP P p = true then none else D.tab v p) = (if v = D.vr k ∧ D.hitP (P ++ [i]) p = true then none else D.tab v p)
    have e : D.hitP (P ++ [i]) p = (D.hitP P p || decide (p = (((D.nd i).2.1 : Int), ((D.nd i).2.2 : Int)))) := by
      unfold hitP
      rw [List.any_append]
      simp
    rw [e]
    by_cases h1 : v = D.vr k
    · by_cases h2 : p = (((D.nd i).2.1 : Int), ((D.nd i).2.2 : Int))
      · rw [if_pos ⟨h1, h2⟩, if_pos ⟨h1, by rw [decide_eq_true h2, Bool.or_true]⟩]
      · rw [if_neg (fun h => h2 h.2), decide_eq_false h2, Bool.or_false]
    · rw [if_neg (fun h => h1 h.1), if_neg (fun h => h1 h.1), if_neg (fun h => h1 h.1)]
  rw [key]
  rfl

/-! ### the cells that wait -/
/-- Whether an entry has a child of the second variable. -/
def yK (D : Dg) (y : Nat) (q : Pair × Nat) : Bool := decide ((D.nd q.1.1.toNat).1 = (y : Int)) || decide ((D.nd q.1.2.toNat).1 = (y : Int))
/-- The cells found so far, in the order of the way through the map. -/
def found (D : Dg) (y : Nat) (Z : List (Pair × Nat)) : List Nat := (Z.filter (D.yK y)).map (·.2)
theorem found_snoc (D : Dg) (y : Nat) (Z : List (Pair × Nat)) (q : Pair × Nat) : D.found y (Z ++ [q]) = if D.yK y q = true then D.found y Z ++ [q.2] else D.found y Z := by
  unfold found
  rw [List.filter_append]
  by_cases h : D.yK y q = true
  · rw [if_pos h, List.filter_cons_of_pos h, List.map_append]; rfl
  · rw [if_neg h, List.filter_cons_of_neg h, List.filter_nil, List.append_nil]
section
variable {D : Dg} {k : Nat} {E : List Nat} {S : Nat → Bfn} {Fs : List Bfn}
theorem Inv.ent (h : Inv D k [] E S Fs) {v : Nat} (hv : v < D.n) {l : List (Pair × Nat)} (hn : (l.map (·.1)).Nodup) (hl : ∀ p, lk l p = D.tab v p) (q : Pair × Nat) : q ∈ l ↔ D.live q.2 ∧ (D.nd q.2).1 = (v : Int) ∧ q.1 = (((D.nd q.2).2.1 : Int), ((D.nd q.2).2.2 : Int)) := by
  obtain ⟨p, i⟩ := q
  rw [← lk_some hn, hl, h.tb v hv]
  exact ⟨fun ⟨a, _, b⟩ => ⟨a, b⟩, fun ⟨a, b⟩ => ⟨a, by simp, b⟩⟩
theorem Inv.found_nd (h : Inv D k [] E S Fs) {v y : Nat} (hv : v < D.n) {l Z : List (Pair × Nat)} (hn : (l.map (·.1)).Nodup) (hl : ∀ p, lk l p = D.tab v p) (hZ : Z.Nodup) (hs : ∀ q, q ∈ Z → q ∈ l) : (D.found y Z).Nodup ∧ (D.found y Z).length ≤ D.total := by
  have ent := h.ent hv hn hl
  have nd : (D.found y Z).Nodup := by
    unfold found
    rw [List.nodup_iff_pairwise_ne, List.pairwise_map]
    have h1 : (Z.filter (D.yK y)).Nodup := hZ.sublist List.filter_sublist
    rw [List.nodup_iff_pairwise_ne] at h1
    refine h1.imp_of_mem (fun {a b} ha hb hne e => hne ?_)
    have a1 := ((ent a).1 (hs a (List.mem_filter.1 ha).1)).2.2
    have b1 := ((ent b).1 (hs b (List.mem_filter.1 hb).1)).2.2
    exact Prod.ext (by rw [a1, b1, e]) e
  refine ⟨nd, ?_⟩
  rw [h.tot]
  refine Mgr.nodup_length _ _ nd (fun i hi => ?_)
  unfold found at hi
  obtain ⟨q, hq, rfl⟩ := List.mem_map.1 hi
  exact mem_liveL.2 ((ent q).1 (hs q (List.mem_filter.1 hq).1)).1
theorem Inv.found_ok (h : Inv D k [] E S Fs) (hk : k + 1 < D.n) {l Z : List (Pair × Nat)} (hn : (l.map (·.1)).Nodup) (hl : ∀ p, lk l p = D.tab (D.vr k) p) (hZ : Z.Nodup) (hs : ∀ q, q ∈ Z ↔ q ∈ l) :
    (D.found (D.vr (k + 1)) Z).Nodup ∧ ∀ i, i ∈ D.found (D.vr (k + 1)) Z ↔ D.Both k i := by
  have ent := h.ent (h.vr_lt (show k < D.n by omega)) hn hl
  refine ⟨(h.found_nd (h.vr_lt (show k < D.n by omega)) hn hl hZ (fun q hq => (hs q).1 hq)).1, ?_⟩
  intro i
  unfold found
  rw [List.mem_map]
  constructor
  · rintro ⟨q, hq, rfl⟩
    obtain ⟨h1, h2⟩ := List.mem_filter.1 hq
    obtain ⟨a1, a2, a3⟩ := (ent q).1 ((hs q).1 h1)
    refine ⟨a1, a2, ?_⟩
    unfold yK at h2
    rw [a3] at h2
    simpa using h2
  · rintro ⟨a1, a2, a3⟩
    refine ⟨((((D.nd i).2.1 : Int), ((D.nd i).2.2 : Int)), i), List.mem_filter.2 ⟨(hs _).2 ((ent _).2 ⟨a1, a2, rfl⟩), ?_⟩, rfl⟩
    unfold yK
    simpa using a3
end
end Dg
end Go.Proofs.YtngbodmooddjbaaGreat

namespace Go.Proofs.YtngbodmooddjbaaGreat
open Go.Shelf Go.RowKit Go.Sort

shelf_lay Lays.n189 Nm 189 at Tryz as Tryz.sortInts

/-! ### sorted numbers -/
theorem sort_nats (F : List Nat) : ∃ B : List Nat, B.Perm F ∧ ((F.map fun i : Nat => (i : Int)).mergeSort fun x y => decide (x ≤ y)) = B.map fun i : Nat => (i : Int) := by
  refine ⟨((F.map fun i : Nat => (i : Int)).mergeSort fun x y => decide (x ≤ y)).map Int.toNat, ?_, ?_⟩
  · have h := (List.mergeSort_perm (F.map fun i : Nat => (i : Int)) fun x y => decide (x ≤ y)).map Int.toNat
    rw [List.map_map] at h
    have e : F.map (Int.toNat ∘ fun i : Nat => (i : Int)) = F := by
      conv => rhs; rw [← List.map_id F]
      exact List.map_congr_left (fun i _ => Int.toNat_natCast i)
    rw [e] at h
    exact h
  · rw [List.map_map]
    conv => lhs; rw [← List.map_id (List.mergeSort _ _)]
    refine List.map_congr_left (fun x hx => ?_)
    have := (List.mergeSort_perm (F.map fun i : Nat => (i : Int)) fun x y => decide (x ≤ y)).mem_iff.1 hx
    obtain ⟨i, _, rfl⟩ := List.mem_map.1 this
    exact (congrArg (fun n : Nat => (n : Int)) (Int.toNat_natCast i)).symm
/-- 'slices.Sort' of a row of the call's own. -/
theorem Sort_row {w : World} {b0 : Nat} {v : Value} {F : List Nat} (row : w.ownsRow b0 3 1 v F.length (F.map natV)) (hl : F.length < 4611686018427387904) :
    Calls Tryz.prog 89 #[v] w fun e w' => e = .returned (.tuple #[]) ∧ ∃ B : List Nat, B.Perm F ∧ w'.ownsRow b0 3 1 v F.length (B.map natV) ∧ Kp (fun k => v.ownBlock = some k) w w' := by
  by_cases h0 : F.length = 0
  · obtain rfl := List.eq_nil_of_length_eq_zero h0
    obtain ⟨a, c, rfl, _⟩ := ownsRow_len (row_zero row)
    have row' := row
    refine (Any.slices_Sort_int_none Tryz.sortInts a c w).mono ?_
    rintro e w' ⟨rfl, rfl⟩
    exact ⟨rfl, [], List.Perm.refl _, row', Kp.refl _ _⟩
  · rcases row.2 with ⟨h, hx⟩ | ⟨g, cap, cur, hv, hb, hg, h1, h2, h3, h4⟩
    · exact absurd (by simpa using hx) h0
    · subst hv
      have hn : (F.map fun i : Nat => (i : Int)).length = F.length := List.length_map _
      have hm : (F.map fun i : Nat => (i : Int)).map (Value.int .i64) = F.map natV := by rw [List.map_map]; rfl
      have hH : Holds (Value.int .i64) w g 0 (F.map fun i : Nat => (i : Int)).toArray := holds_of_blockI hg (by rw [hn, hm]; rw [Nat.mul_one] at h4; exact h4)
      have hlt := heap_lt hg
      obtain ⟨B, hB, eB⟩ := sort_nats F
      have q := Any.slices_Sort_int Tryz.sortInts g 0 cap (F.map fun i : Nat => (i : Int)) w hH hlt (by rw [hn]; exact hl)
      rw [hn, eB] at q
      refine q.mono ?_
      rintro e w' ⟨rfl, n, os, rfl⟩
      refine ⟨rfl, B, hB, ?_, ?_⟩
      · have r := ownsRow_sortedI (w := w) (base := b0) (g := g) (cap := cap) (n := n) (os := os) (ss := F.map fun i : Nat => (i : Int)) (ts := B.map fun i : Nat => (i : Int)) (by simp [hB.length_eq]) hb hg (by rw [hn]; exact h1) h2 h3
        rw [hn, List.map_map] at r
        exact r
      · have k := grownBy_sortedI (w := w) (g := g) (n := n) (os := os) (B.map fun i : Nat => (i : Int)).toArray
        exact Kp.grown k

/-! ### a cell is written -/
/-- The exchange in the order. -/
theorem DRep.swO {w : World} {d : Nat} {D : Dg} {L : DLay} (R : DRep w d D L) {g cap k : Nat} (hs : L.so = .slice (some ⟨g, 0, none⟩) D.order.length cap) (y x : Nat) (e1 : D.order.getD (k + 1) 0 = y) (e2 : D.order.getD k 0 = x) :
    DRep ((w.setCell ⟨g, k, none⟩ (.int .i64 (y : Int))).setCell ⟨g, k + 1, none⟩ (.int .i64 (x : Int))) d (D.swap0 k []) L ∧ Kp (fun k => L.so.ownBlock = some k) w ((w.setCell ⟨g, k, none⟩ (.int .i64 (y : Int))).setCell ⟨g, k + 1, none⟩ (.int .i64 (x : Int))) := by
  have hk : ∀ (y : World) (i : Nat) (v : Value), Kp (fun k => L.so.ownBlock = some k) y (y.setCell ⟨g, i, none⟩ v) := fun y i v => (Kp.setCell _ _).mono (fun k _ e => by rw [hs, e]; rfl)
  have kk := (hk w k (.int .i64 (y : Int))).trans (A' := fun k => L.so.ownBlock = some k) (fun _ h => .inl h) (hk _ (k + 1) (.int .i64 (x : Int)))
  rw [Dg.swap0_nil]
  refine ⟨R.setO kk ?_ (swO_len _ _) rfl rfl rfl rfl rfl rfl, kk⟩
  have h := R.order
  rw [hs] at h
  have h4 := ownsRow_store (ownsRow_store h k (.int .i64 (y : Int))) (k + 1) (.int .i64 (x : Int))
  have e : (Go.Proofs.YtngbodmooddjbaaGreat.swO D.order k).map natV = ((D.order.map natV).set k (.int .i64 (y : Int))).set (k + 1) (.int .i64 (x : Int)) := by
    unfold Go.Proofs.YtngbodmooddjbaaGreat.swO
    rw [e1, e2, List.map_set, List.map_set]; rfl
  show World.ownsRow _ 0 3 1 L.so (Go.Proofs.YtngbodmooddjbaaGreat.swO D.order k).length ((Go.Proofs.YtngbodmooddjbaaGreat.swO D.order k).map natV)
  rw [e, swO_len, hs]
  exact h4

end Go.Proofs.YtngbodmooddjbaaGreat

namespace Go.Proofs.YtngbodmooddjbaaGreat
open Go.RowKit

/-- An entry is taken out. -/
theorem DRep.tabdel {X : World} {d : Nat} {L1 : DLay} {D1 : Dg} (s : DRep X d D1 L1) {x : Nat} (hx : x < D1.order.length) (p : Pair) :
    ∃ w3, (∀ n ty, (Builtin.delete_ #[115, 129] ty #[.map (some (L1.tb.getD x 0)), pairV p]).run Tryz.prog (X.drewN n) = .ok (.tuple #[]) (w3.drewN n)) ∧ DRep w3 d { D1 with tab := updT D1.tab x p none } L1 ∧ Kp (fun k => k = L1.tb.getD x 0) X w3 := by
  obtain ⟨l, hM, hl⟩ := s.maps x hx
  obtain ⟨w3, l', h1, h2, h4, h3, _⟩ := hM.del keyKids Tryz.underlying115 p
  refine ⟨w3, h1, s.setM hx h3 h2 (fun q => ?_) (fun u hu => updT_other hu) rfl rfl rfl rfl rfl rfl, h3⟩
  rw [h4, hl]
  exact (updT_same q).symm
theorem row_mapL {w : World} {base e s n b : Nat} {v : Value} {xs : List Value} {enc : Pair → Value} {ev : Nat → Value} {l : List (Pair × Nat)} (h : w.ownsRow base e s v n xs) (hm : MapL w b enc ev l) : v.ownBlock ≠ some b := fun hk => by
  obtain ⟨cur, h1⟩ := ownsRow_block h hk
  obtain ⟨Z, c, hb, _⟩ := hm
  rw [h1] at hb
  cases hb
theorem row_iter {w : World} {base e s n b r cnt : Nat} {v : Value} {xs : List Value} {enc : Pair → Value} {ev : Nat → Value} {l S : List (Pair × Nat)} (h : w.ownsRow base e s v n xs) (hm : MapIt w b r enc ev l S cnt) : v.ownBlock ≠ some r := fun hk => by
  obtain ⟨cur, h1⟩ := ownsRow_block h hk
  obtain ⟨Z, clock, since, c0, sn, _, _, _, hr, _⟩ := hm
  rw [h1] at hr
  cases hr
/-- The way through the map of the first variable. -/
structure Lp1 (w : World) (d bm r y : Nat) (D : Dg) (L : DLay) (l : List (Pair × Nat)) (gk : Nat) (bv : Value) (x : World) (Z : List (Pair × Nat)) : Prop where
  it : MapIt x bm r pairV natV l Z gk
  row : x.ownsRow w.heap.size 3 1 bv (D.found y Z).length ((D.found y Z).map natV)
  rep : DRep x d D L
  kp : Kp No w x
  rn : w.heap.size ≤ r
/-- The step of the way. -/
theorem Lp1.step {w x z : World} {d bm r y gk gk' : Nat} {D : Dg} {L : DLay} {l Z : List (Pair × Nat)} {bv : Value} {q : Pair × Nat} (s : Lp1 w d bm r y D L l gk bv x Z) (R0 : DRep w d D L) (k : Kp (fun a => a = r) x z) (h : MapIt z bm r pairV natV l (Z ++ [q]) gk') :
    MapIt z bm r pairV natV l (Z ++ [q]) gk' ∧ z.ownsRow w.heap.size 3 1 bv (D.found y Z).length ((D.found y Z).map natV) ∧ DRep z d D L ∧ Kp No w z := by
  have rL : ∀ a, a = r → ¬ L.at d a := fun a e h => by have := R0.lt a h; have := s.rn; omega
  exact ⟨h, ownsRow_kp s.row k (fun b hb e => row_iter s.row s.it (by rw [hb, e])), s.rep.kp k rL, s.kp.trans (A' := fun a => a = r) (fun a e => .inr (by rw [e]; exact s.rn)) k⟩
/-- The cell is one of those. -/
theorem Lp1.add {w x z : World} {d bm r y gk n : Nat} {D : Dg} {L : DLay} {l Z : List (Pair × Nat)} {bv bv' : Value} {q : Pair × Nat} (R0 : DRep w d D L) (rn : w.heap.size ≤ r) (hy : D.yK y q = true)
    (it : MapIt x bm r pairV natV l (Z ++ [q]) gk) (row : x.ownsRow w.heap.size 3 1 bv (D.found y Z).length ((D.found y Z).map natV)) (rep : DRep x d D L) (kp : Kp No w x)
    (hn : n = (D.found y Z).length + 1) (own : z.ownsRow w.heap.size 3 1 bv' n ((D.found y Z).map natV ++ [.int .i64 (q.2 : Int)])) (kz : Kp (fun k => bv.ownBlock = some k) x z) : Lp1 w d bm r y D L l gk bv' z (Z ++ [q]) := by
  have e : D.found y (Z ++ [q]) = D.found y Z ++ [q.2] := by rw [D.found_snoc, if_pos hy]
  refine ⟨it.kp kz (row_mapL row it.mapL) (row_iter row it), ?_, rep.kp kz (fun k hk h => ?_), kp.trans (A' := fun k => bv.ownBlock = some k) (fun k hk => .inr (row.lt k hk).1) kz, rn⟩
  · rw [e, List.length_append, List.map_append]
    subst hn
    exact own
  · have h1 := (row.lt k hk).1
    have h2 := R0.lt k h
    omega
theorem Lp1.skip {w x : World} {d bm r y gk : Nat} {D : Dg} {L : DLay} {l Z : List (Pair × Nat)} {bv : Value} {q : Pair × Nat} (rn : w.heap.size ≤ r) (hy : D.yK y q = false)
    (it : MapIt x bm r pairV natV l (Z ++ [q]) gk) (row : x.ownsRow w.heap.size 3 1 bv (D.found y Z).length ((D.found y Z).map natV)) (rep : DRep x d D L) (kp : Kp No w x) : Lp1 w d bm r y D L l gk bv x (Z ++ [q]) := by
  have e : D.found y (Z ++ [q]) = D.found y Z := by rw [D.found_snoc, hy]; rfl
  exact ⟨it, by rw [e]; exact row, rep, kp, rn⟩

/-- A row beside the diagram on the way. -/
structure StR (w : World) (d : Nat) (L : DLay) (base : Nat) (bv : Value) (B : List Nat) (x : World) (D' : Dg) (L' : DLay) : Prop where
  rep : DRep x d D' L'
  kp : Kp (L.at d) w x
  fr : Fresh (L.at d) (L'.at d) w
  row : x.ownsRow base 3 1 bv B.length (B.map natV)
  nb : ∀ k, bv.ownBlock = some k → ¬ L'.at d k
section
variable {w x z : World} {d base : Nat} {L L' : DLay} {bv : Value} {B : List Nat} {D' : Dg}
theorem StR.no (s : StR w d L base bv B x D' L') (k : Kp No x z) : StR w d L base bv B z D' L' := ⟨s.rep.no k, s.kp.trans_no k, s.fr, ownsRow_kp s.row k (fun _ _ h => h), s.nb⟩
theorem StR.step {D2 : Dg} {A : Nat → Prop} (s : StR w d L base bv B x D' L') (r : DRep z d D2 L') (k : Kp A x z) (hA : ∀ a, A a → L'.at d a) : StR w d L base bv B z D2 L' :=
  ⟨r, s.kp.trans s.fr (k.mono (fun a _ h => hA a h)), s.fr, ownsRow_kp s.row k (fun b hb h => s.nb b hb (hA b h)), s.nb⟩
theorem StR.dret {D2 : Dg} (s : StR w d L base bv B x D' L') (h : DRet d L' x D2 z) : ∃ L2, StR w d L base bv B z D2 L2 := by
  obtain ⟨L2, r, k, f⟩ := h
  refine ⟨L2, r, s.kp.trans s.fr k, fun a ha => ?_, ownsRow_kp s.row k s.nb, fun b hb h => ?_⟩
  · rcases f a ha with h | h
    · exact s.fr a h
    · exact .inr (Nat.le_trans s.kp.size h)
  · rcases f b h with h | h
    · exact s.nb b hb h
    · have := (s.row.lt b hb).2; omega
theorem StR.ret (s : StR w d L base bv B x D' L') : DRet d L w D' x := ⟨L', s.rep, s.kp, s.fr⟩
end

/-- What the exchange leaves. -/
def SwPost (d : Nat) (L : DLay) (w : World) (D : Dg) (k : Nat) (E : List Nat) (S : Nat → Bfn) (Fs : List Bfn) (e : Ending) (w' : World) : Prop :=
  e = .returned (.tuple #[]) ∧ ∃ D' S', DRet d L w D' w' ∧ D'.Inv k [] E S' Fs ∧ D'.order = swO D.order k ∧ ∀ e, e ∈ E → S' e = S e
structure SwB (D : Dg) (E : List Nat) (Fs : List Bfn) : Prop where
  b : Fs.length * 3 ^ D.n ≤ 10000000000
  e : E.length ≤ 10000000000
/-- The rounds of the exchange: the cells from j on wait. -/
structure Lp3 (w : World) (d : Nat) (L : DLay) (base : Nat) (bv : Value) (B : List Nat) (k : Nat) (o E : List Nat) (S : Nat → Bfn) (Fs : List Bfn) (j : Nat) (x : World) (D' : Dg) (S' : Nat → Bfn) (L' : DLay) : Prop where
  st : StR w d L base bv B x D' L'
  inv : D'.Inv k (B.drop j) E S' Fs
  ord : D'.order = o
  ex : ∀ e, e ∈ E → S' e = S e
end Go.Proofs.YtngbodmooddjbaaGreat

namespace Go.Proofs.YtngbodmooddjbaaGreat
open Go.RowKit

/-- The order as it lies. -/
theorem DRep.ord_at {w : World} {d : Nat} {D : Dg} {L : DLay} (R : DRep w d D L) (h : 0 < D.order.length) :
    ∃ g cap, L.so = .slice (some ⟨g, 0, none⟩) D.order.length cap ∧ (∀ k, k < D.order.length → w.cell? ⟨g, k, none⟩ = some (.int .i64 (D.order.getD k 0 : Int))) ∧ (∀ k, w.frozen? ⟨g, k, none⟩ = false) := by
  obtain ⟨g, cap, hs, _, _, _, hc, hz⟩ := ownsRow_open R.order h
  exact ⟨g, cap, hs, fun k hk => hc k _ (natsAt_get hk), hz⟩
/-- The variable of a cell is written. -/
theorem DRep.k0set {w : World} {d : Nat} {D : Dg} {L : DLay} (R : DRep w d D L) {g cap i : Nat} (hs : L.sc = .slice (some ⟨g, 0, none⟩) D.len cap) (hi : i < D.len) (v : Int) :
    DRep (w.setCell ⟨g, i * 4, none⟩ (.int .i64 v)) d { D with nd := putN D.nd i (v, (D.nd i).2) } L := by
  refine R.setC (scKp hs _ _ _) ?_ rfl rfl rfl rfl
  have h := R.cells
  rw [hs] at h
  have h4 := ownsRow_store h (i * 4) (.int .i64 v)
  have e : ({ D with nd := putN D.nd i (v, (D.nd i).2) } : Dg).cells = D.cells.set (i * 4) (.int .i64 v) := by
    refine (flat4_ext _ (fun _ => rfl) (by rw [List.length_set, D.cells_len]) (fun a b ha hb => ?_)).symm
    rw [List.getElem?_set]
    have hl := D.cells_len
    by_cases c : a = i
    · subst c
      show _ = (celV (putN D.nd a (v, (D.nd a).2) a) (D.rf a))[b]?
      rw [putN_same]
      have : b = 0 ∨ b = 1 ∨ b = 2 ∨ b = 3 := by omega
      rcases this with rfl | rfl | rfl | rfl
      · rw [if_pos (by omega), if_pos (by omega)]; rfl
      all_goals rw [if_neg (by omega), D.cells_get ha hb]; rfl
    · show _ = (celV (putN D.nd i (v, (D.nd i).2) a) (D.rf a))[b]?
      rw [putN_other _ _ c, if_neg (by omega), D.cells_get ha hb]
  rw [e, hs]
  exact h4
/-- The children of a cell are written. -/
theorem DRep.k12set {w : World} {d : Nat} {D : Dg} {L : DLay} (R : DRep w d D L) {g cap i : Nat} (hs : L.sc = .slice (some ⟨g, 0, none⟩) D.len cap) (hi : i < D.len) (lo hi' : Nat) :
    DRep ((w.setCell ⟨g, i * 4 + 1, none⟩ (.int .i64 (lo : Int))).setCell ⟨g, i * 4 + 2, none⟩ (.int .i64 (hi' : Int))) d { D with nd := putN D.nd i ((D.nd i).1, lo, hi') } L := by
  refine R.setC ((scKp hs w _ _).trans (A' := fun k => L.sc.ownBlock = some k) (fun _ h => .inl h) (scKp hs _ _ _)) ?_ rfl rfl rfl rfl
  have h := R.cells
  rw [hs] at h
  have h4 := ownsRow_store (ownsRow_store h (i * 4 + 1) (.int .i64 (lo : Int))) (i * 4 + 2) (.int .i64 (hi' : Int))
  have e : ({ D with nd := putN D.nd i ((D.nd i).1, lo, hi') } : Dg).cells = (D.cells.set (i * 4 + 1) (.int .i64 (lo : Int))).set (i * 4 + 2) (.int .i64 (hi' : Int)) := by
    refine (flat4_ext _ (fun _ => rfl) (by rw [List.length_set, List.length_set, D.cells_len]) (fun a b ha hb => ?_)).symm
    rw [List.getElem?_set, List.getElem?_set]
    have hl := D.cells_len
    simp only [List.length_set]
    by_cases c : a = i
    · subst c
      show _ = (celV (putN D.nd a ((D.nd a).1, lo, hi') a) (D.rf a))[b]?
      rw [putN_same]
      have : b = 0 ∨ b = 1 ∨ b = 2 ∨ b = 3 := by omega
      rcases this with rfl | rfl | rfl | rfl
      · rw [if_neg (by omega), if_neg (by omega), D.cells_get ha hb]; rfl
      · rw [if_neg (by omega), if_pos rfl, if_pos (by omega)]; rfl
      · rw [if_pos rfl, if_pos (by omega)]; rfl
      · rw [if_neg (by omega), if_neg (by omega), D.cells_get ha hb]; rfl
    · show _ = (celV (putN D.nd i ((D.nd i).1, lo, hi') a) (D.rf a))[b]?
      rw [putN_other _ _ c, if_neg (by omega), if_neg (by omega), D.cells_get ha hb]
  rw [e, hs]
  exact h4
theorem putN_twice {α : Type} (f : Nat → α) (i : Nat) (x y : α) : putN (putN f i x) i y = putN f i y := by
  funext j
  unfold putN
  split <;> rfl

theorem Dg.turn_eq (D2 : Dg) (k i A B y : Nat) (h : D2.vr k = y) : ({ D2 with nd := putN (putN D2.nd i ((y : Int), (D2.nd i).2)) i ((putN D2.nd i ((y : Int), (D2.nd i).2) i).1, A, B), tab := updT D2.tab y ((A : Int), (B : Int)) (some i) } : Dg) = D2.turn k i A B := by
  subst h
  unfold Dg.turn
  rw [putN_same, putN_twice]

/-- A row and some blocks beside the diagram on the way. -/
structure StQ (w : World) (d : Nat) (L : DLay) (base : Nat) (bv : Value) (B : List Nat) (bs : List (Nat × Obj)) (x : World) (D' : Dg) (L' : DLay) : Prop where
  st : StR w d L base bv B x D' L'
  bx : ∀ q, q ∈ bs → x.heap[q.1]? = some q.2 ∧ ¬ L'.at d q.1
section
variable {w x z : World} {d base : Nat} {L L' : DLay} {bv : Value} {B : List Nat} {bs : List (Nat × Obj)} {D' : Dg}
theorem StQ.no (s : StQ w d L base bv B bs x D' L') (k : Kp No x z) : StQ w d L base bv B bs z D' L' :=
  ⟨s.st.no k, fun q hq => ⟨by rw [k.block q.1 (heap_lt (s.bx q hq).1) (fun h => h)]; exact (s.bx q hq).1, (s.bx q hq).2⟩⟩
theorem StQ.push (s : StQ w d L base bv B bs x D' L') (o : Obj) : StQ w d L base bv B ((x.heap.size, o) :: bs) (x.alloc o) D' L' := by
  have s' := s.no (Kp.alloc o)
  refine ⟨s'.st, fun q hq => ?_⟩
  rcases List.mem_cons.1 hq with rfl | hq
  · refine ⟨heap_alloc_new _ _, fun h => ?_⟩
    have := s.st.rep.lt _ h
    omega
  · exact s'.bx q hq
theorem StQ.step {D2 : Dg} {A : Nat → Prop} (s : StQ w d L base bv B bs x D' L') (r : DRep z d D2 L') (k : Kp A x z) (hA : ∀ a, A a → L'.at d a) : StQ w d L base bv B bs z D2 L' :=
  ⟨s.st.step r k hA, fun q hq => ⟨by rw [k.block q.1 (heap_lt (s.bx q hq).1) (fun h => (s.bx q hq).2 (hA _ h))]; exact (s.bx q hq).1, (s.bx q hq).2⟩⟩
theorem StQ.dret {D2 : Dg} (s : StQ w d L base bv B bs x D' L') (h : DRet d L' x D2 z) : ∃ L2, StQ w d L base bv B bs z D2 L2 := by
  obtain ⟨L2, r, k, f⟩ := h
  obtain ⟨L2', r', k', f'⟩ : ∃ L2', L2' = L2 ∧ True ∧ True := ⟨L2, rfl, trivial, trivial⟩
  subst r'
  refine ⟨L2', ⟨r, s.st.kp.trans s.st.fr k, fun a ha => ?_, ownsRow_kp s.st.row k s.st.nb, fun b hb h => ?_⟩, fun q hq => ⟨?_, fun h => ?_⟩⟩
  · rcases f a ha with h | h
    · exact s.st.fr a h
    · exact .inr (Nat.le_trans s.st.kp.size h)
  · rcases f b h with h | h
    · exact s.st.nb b hb h
    · have := (s.st.row.lt b hb).2; omega
  · rw [k.block q.1 (heap_lt (s.bx q hq).1) (s.bx q hq).2]; exact (s.bx q hq).1
  · rcases f q.1 h with h | h
    · exact (s.bx q hq).2 h
    · have := heap_lt (s.bx q hq).1; omega
theorem StQ.cellBox (s : StQ w d L base bv B bs x D' L') {b : Nat} {lo hi : Nat} {t : TypeId} (h : (b, Obj.cells #[.int .i64 (lo : Int), .int .i64 (hi : Int)] t (0, 0)) ∈ bs) :
    x.cell? ⟨b, 0, none⟩ = some (.int .i64 (lo : Int)) ∧ x.cell? ⟨b, 1, none⟩ = some (.int .i64 (hi : Int)) ∧ b < x.heap.size := by
  have := (s.bx _ h).1
  exact ⟨by simp [World.cell?, this], by simp [World.cell?, this], heap_lt this⟩
/-- An entry is put in. -/
theorem StQ.tabset (s : StQ w d L base bv B bs x D' L') {v : Nat} (hv : v < D'.order.length) (p : Pair) (ht : D'.tab v p = none) (r : Nat) :
    ∃ w3, (∀ n, (Instr.mapUpdate 115 (.map (some (L'.tb.getD v 0))) (pairV p) (.int .i64 (r : Int))).run Tryz.prog (x.drewN n) = .ok () (w3.drewN n)) ∧ StQ w d L base bv B bs w3 { D' with tab := updT D'.tab v p (some r) } L' := by
  obtain ⟨l, hM, hl⟩ := s.st.rep.maps v hv
  have hn : lk l p = none := by rw [hl, ht]
  obtain ⟨w3, h1, h2, h3, _⟩ := hM.push keyKids Tryz.underlying115 p r hn
  refine ⟨w3, h1, s.step (s.st.rep.setM hv h3 h2 (fun q => ?_) (fun u hu => updT_other hu) rfl rfl rfl rfl rfl rfl) h3 (fun k e => .inr (.inr (.inr (.inr (.inr (by rw [e]; exact s.st.rep.tb_mem hv))))))⟩
  rw [lk_append l p q r hn, hl]
  exact (updT_same q).symm
theorem StQ.k0 (s : StQ w d L base bv B bs x D' L') {g cap i : Nat} (hs : L'.sc = .slice (some ⟨g, 0, none⟩) D'.len cap) (hi : i < D'.len) (v : Int) :
    StQ w d L base bv B bs (x.setCell ⟨g, i * 4, none⟩ (.int .i64 v)) { D' with nd := putN D'.nd i (v, (D'.nd i).2) } L' :=
  s.step (s.st.rep.k0set hs hi v) (scKp hs _ _ _) (fun _ e => .inr (.inr (.inl e)))
theorem StQ.k12 (s : StQ w d L base bv B bs x D' L') {g cap i : Nat} (hs : L'.sc = .slice (some ⟨g, 0, none⟩) D'.len cap) (hi : i < D'.len) (lo hi' : Nat) :
    StQ w d L base bv B bs ((x.setCell ⟨g, i * 4 + 1, none⟩ (.int .i64 (lo : Int))).setCell ⟨g, i * 4 + 2, none⟩ (.int .i64 (hi' : Int))) { D' with nd := putN D'.nd i ((D'.nd i).1, lo, hi') } L' :=
  s.step (s.st.rep.k12set hs hi lo hi') ((scKp hs x _ _).trans (A' := fun k => L'.sc.ownBlock = some k) (fun _ h => .inl h) (scKp hs _ _ _)) (fun _ e => .inr (.inr (.inl e)))
end
end Go.Proofs.YtngbodmooddjbaaGreat

namespace Go.Proofs.YtngbodmooddjbaaGreat
open Go.RowKit

set_option maxRecDepth 1000000 in
set_option maxHeartbeats 16000000 in
theorem DSwap_ok {w : World} {d : Nat} {D : Dg} {L : DLay} {k : Nat} {E : List Nat} {S : Nat → Bfn} {Fs : List Bfn} (h : D.Inv k [] E S Fs) (b : SwB D E Fs) (hk : k + 1 < D.n) (hn : D.n ≤ 256) (R : DRep w d D L) :
    Calls Tryz.prog 82 #[ptr d, .int .i64 (k : Int)] w (SwPost d L w D k E S Fs) := by
  obtain ⟨i0, hi0, hz0, hz1, hz2⟩ := info_parts info_int
  have hkl : k + 1 < D.order.length := hk
  have hnl : D.order.length ≤ 256 := hn
  have c0 := R.c0
  have plt := heap_lt R.blk
  obtain ⟨go, co, hso, hcl, hzl⟩ := R.ord_at (by omega)
  have d0 := hcl k (by omega)
  have d1 := hcl (k + 1) hkl
  have z0 := hzl k
  have z1 := hzl (k + 1)
  have glt := World.block_lt_of_cell? _ _ d0
  have HI := Lib.hid h
  have HB := Lib.hid b
  have HK := Lib.hid (And.intro hk hn)
  rw [hso] at c0
  obtain ⟨x, hx⟩ : ∃ x, D.order.getD k 0 = x := ⟨_, rfl⟩
  obtain ⟨y, hy⟩ : ∃ y, D.order.getD (k + 1) 0 = y := ⟨_, rfl⟩
  rw [hx] at d0
  rw [hy] at d1
  have SW : Hid (∀ z, Kp No w z → DRep ((z.setCell ⟨go, k, none⟩ (.int .i64 (y : Int))).setCell ⟨go, k + 1, none⟩ (.int .i64 (x : Int))) d (D.swap0 k []) L ∧ Kp (L.at d) w ((z.setCell ⟨go, k, none⟩ (.int .i64 (y : Int))).setCell ⟨go, k + 1, none⟩ (.int .i64 (x : Int)))) :=
    Lib.hid (fun z kz => by
      obtain ⟨s1, s2⟩ := (R.no kz).swO hso y x hy hx
      exact ⟨s1, kz.no_trans (s2.mono (fun _ _ e => .inr (.inl e)))⟩)
  have HXY : Hid (D.vr k = x ∧ D.vr (k + 1) = y ∧ x < D.order.length ∧ y < D.order.length) := Lib.hid ⟨hx, hy, by rw [← hx]; exact h.vr_lt (show k < D.n by omega), by rw [← hy]; exact h.vr_lt hk⟩
  have b1 : (k : Int) < D.order.length := by omega
  have b2 : (k : Int) + 1 < D.order.length := by omega
  have b3 : D.order.length ≤ 9223372036854775807 := by omega
  have b4 : (k : Int) + 1 ≤ 256 := by omega
  have b5 : k + 1 < D.order.length := by omega
  clear h b hk hn R hso hcl hzl hx hy hkl hnl
  go_enter Tryz.func82, Tryz.ntmps82
  go_wp2
  go_quiet (fail)
  go_wp2
  go_region
  go_upto_region 2 with fail
  obtain ⟨r1, k1⟩ := SW.out (w.drewN (nq + 1)) (Kp.drewN _)
  have K1 := Lib.hid k1
  clear c0 d0 d1 z0 z1 plt glt b1 b2 b4 k1 SW
  generalize ((w.drewN (nq + 1)).setCell ⟨go, k, none⟩ (.int .i64 (y : Int))).setCell ⟨go, k + 1, none⟩ (.int .i64 (x : Int)) = W1 at *
  -- the way through the map
  obtain ⟨hvx, hvy, hxl, hyl⟩ := HXY.out
  have o1 : (D.swap0 k []).order.length = D.order.length := swO_len _ _
  obtain ⟨gt, ct, hst, ht1, ht2, ktb⟩ := r1.tab_at (v := x) (by rw [o1]; exact hxl)
  obtain ⟨l, hM, hl0⟩ := r1.maps x (by rw [o1]; exact hxl)
  have EL : Hid (∀ p, lk l p = D.tab x p) := Lib.hid (fun p => by rw [hl0, Dg.swap0_nil])
  have HND : Hid (l.map (·.1)).Nodup := Lib.hid hM.nodup
  generalize L.tb.getD x 0 = bm at *
  obtain ⟨W2, cnt, hrg, it0, k2, hsz2⟩ := hM.range Tryz.underlying115
  have c2 := r1.c2
  rw [hst, o1] at c2
  have plt := heap_lt r1.blk
  have gtlt := World.block_lt_of_cell? _ _ ktb
  have rg : (Instr.range 115 (.map (some bm))).run Tryz.prog W1 = .ok (.pointer (some ⟨W1.heap.size, 0, none⟩)) W2 := hrg 0
  have b6 : (x : Int) < D.order.length := by omega
  have J1 : Hid (Lp1 W1 d bm W1.heap.size y (D.swap0 k []) L l cnt (.slice none 0 0) W2 []) := Lib.hid ⟨it0, World.ownsRow_nil _ _ _ _, r1.no k2, k2, Nat.le_refl _⟩
  have R1 := Lib.hid r1
  clear hst ht1 ht2 hM hl0 it0 k2 hsz2 hrg r1 hvx hvy hxl hyl o1
  go_wp2
  obtain ⟨r, hr⟩ : ∃ r, W1.heap.size = r := ⟨_, rfl⟩
  have HR := Lib.hid hr
  rw [hr] at J1 ⊢
  clear hr plt rg c2 ktb gtlt b6
  go_loopg [6] cnt (fun gk s6 z => ∃ bv Z, bv = s6 ∧ Lp1 W1 d bm r y (D.swap0 k []) L l gk bv z Z)
  case atStart => exact ⟨_, [], rfl, J1.out⟩
  case round =>
    clear J1
    obtain ⟨bv, Z, e6, s⟩ := hrel
    subst e6
    have S1 := Lib.hid s
    rcases s.it.next (P := Tryz.prog) 0 with ⟨h0, hall, hrun⟩ | ⟨kk, i, z, cnt', hmem, hnin, hrun, it', hlt, kr, hz, hent⟩
    · have hnx : ∀ ty, (Instr.next (.pointer (some ⟨r, 0, none⟩)) false ty).run Tryz.prog wr = .ok (.tuple #[.bool false]) wr := fun _ => hrun
      have FND : Hid ((D.found y Z).Nodup ∧ ∀ i, i ∈ D.found y Z ↔ D.Both k i) := Lib.hid (by
        obtain ⟨hvx, hvy, hxl, hyl⟩ := HXY.out
        have h1 := HI.out.found_ok HK.out.1 HND.out (fun p => by rw [hvx]; exact EL.out p) s.it.nodup hall
        rw [hvy] at h1
        exact h1)
      have hfl : (D.found y Z).length ≤ 10000000000 := by
        obtain ⟨hvx, hvy, hxl, hyl⟩ := HXY.out
        have h1 := (HI.out.found_nd (v := x) (y := y) hxl HND.out EL.out s.it.nodup s.it.sub).2
        have h2 := HI.out.total_le
        have h3 := HB.out.b
        omega
      have SORT := Lib.hid (Sort_row s.row (show (D.found y Z).length < 4611686018427387904 by omega))
      have HFL := Lib.hid hfl
      clear s h0 hall hrun hfl EL HND
      go_wp2_with fail
      refine SORT.out.mono ?_
      rintro e W3 ⟨rfl, B, hB, row3, k3⟩
      have hBl : B.length ≤ 10000000000 := by rw [hB.length_eq]; exact HFL.out
      have FB : Hid (B.Nodup ∧ ∀ i, i ∈ B ↔ D.Both k i) := Lib.hid ⟨hB.nodup_iff.2 FND.out.1, fun i => hB.mem_iff.trans (FND.out.2 i)⟩
      rw [← hB.length_eq] at row3
      have S3 : Hid (StR W1 d L W1.heap.size bv B W3 (D.swap0 k []) L) := Lib.hid (by
        have off : ∀ b, bv.ownBlock = some b → ¬ L.at d b := fun b hb h => by
          have h1 := (S1.out.row.lt b hb).1
          have h2 := R1.out.lt b h
          omega
        exact ⟨S1.out.rep.kp k3 off, (S1.out.kp.trans (A' := fun b => bv.ownBlock = some b) (fun b hb => .inr (S1.out.row.lt b hb).1) k3).mono (fun _ _ h => h.elim), fun _ h => .inl h, row3, off⟩)
      obtain ⟨ab, cb, rfl, _⟩ := ownsRow_len (row_zero row3)
      clear hB row3 k3 SORT FND HFL S1 hnx
      go_wp2
      go_loopg [94] B.length (fun gk s z => ∃ j : Nat, j + gk = B.length ∧ s = .int .i64 (j : Int) ∧ StR W1 d L W1.heap.size (.slice ab B.length cb) B z (D.swap0 k (B.take j)) L)
      case atStart => exact ⟨0, by omega, rfl, S3.out⟩
      case round =>
        clear S3
        obtain ⟨j, hj, rfl, s⟩ := hrel
        have HJ := Lib.hid hj
        by_cases hlt : j < B.length
        · have hlti : (j : Int) < B.length := by omega
          obtain ⟨hvx, hvy, hxl, hyl⟩ := HXY.out
          have o1 : (D.swap0 k (B.take j)).order.length = D.order.length := swO_len _ _
          obtain ⟨gb, cb', hv, _, _, _, hcb, _⟩ := ownsRow_open (row_zero s.row) (by omega)
          cases hv
          have d1 := hcb j (natV (B.getD j 0)) (natsAt_get hlt)
          have hb := (FB.out.2 (B.getD j 0)).1 (by
            rw [List.getD_eq_getElem?_getD, List.getElem?_eq_getElem hlt]
            exact List.getElem_mem hlt)
          obtain ⟨gt, ct, hst, ht1, ht2, ktb⟩ := s.rep.tab_at (v := x) (by rw [o1]; exact hxl)
          have hil : B.getD j 0 < D.len := hb.1.2.1
          obtain ⟨g, cap, hs, _, hcm, hcel, _⟩ := s.rep.cel (by show 0 < D.len; omega)
          have k1 : wr.cell? ⟨g, B.getD j 0 * 4 + 1, none⟩ = some (.int .i64 ((D.nd (B.getD j 0)).2.1 : Int)) := (hcel _ hil).2.1
          have k2 : wr.cell? ⟨g, B.getD j 0 * 4 + 2, none⟩ = some (.int .i64 ((D.nd (B.getD j 0)).2.2 : Int)) := (hcel _ hil).2.2.1
          obtain ⟨w3, hdel, r3, kp3⟩ := s.rep.tabdel (x := x) (by rw [o1]; exact hxl) (((D.nd (B.getD j 0)).2.1 : Int), ((D.nd (B.getD j 0)).2.2 : Int))
          have dl : ∀ ty, (Builtin.delete_ #[115, 129] ty #[.map (some (L.tb.getD x 0)), .agg #[.int .i64 ((D.nd (B.getD j 0)).2.1 : Int), .int .i64 ((D.nd (B.getD j 0)).2.2 : Int)]]).run Tryz.prog wr.drew = .ok (.tuple #[]) w3.drew := hdel 1
          have JN : Hid (StR W1 d L W1.heap.size (.slice (some ⟨gb, 0, none⟩) B.length cb) B w3.drew (D.swap0 k (B.take (j + 1))) L) := Lib.hid (by
            have e : B.take (j + 1) = B.take j ++ [B.getD j 0] := by
              rw [List.take_succ_eq_append_getElem hlt, List.getD_eq_getElem?_getD, List.getElem?_eq_getElem hlt]; rfl
            have t := s.step r3 kp3 (fun a h => by rw [h]; exact .inr (.inr (.inr (.inr (.inr (s.rep.tb_mem (by rw [o1]; exact hxl)))))))
            rw [e, ← Dg.swap0_snoc D k (B.getD j 0) (B.take j), hvx]
            exact t.no Kp.drew)
          have c1 := s.rep.c1
          have c2 := s.rep.c2
          rw [hs] at c1
          rw [hst, o1] at c2
          replace c1 : wr.cell? ⟨d, 1, none⟩ = some (.slice (some ⟨g, 0, none⟩) D.len cap) := c1
          have hlen : D.len ≤ 9223372036854775807 := by
            have h5 := HI.out.len
            have h6 := HB.out.b
            omega
          have plt := heap_lt s.rep.blk
          have n1 : ((B.getD j 0 : Nat) : Int) < D.len := by omega
          have n2 : (x : Int) < D.order.length := by omega
          have n3 : j + 1 ≤ 10000000001 := by omega
          have glt := World.block_lt_of_cell? _ _ k1
          have gtlt := World.block_lt_of_cell? _ _ ktb
          have gblt := World.block_lt_of_cell? _ _ d1
          unfold natV at d1
          clear s hb hj hil hst ht1 ht2 hs hcm hcel hdel r3 kp3 o1 hvx hvy hxl hyl hcb
          generalize L.tb.getD x 0 = bm at *
          generalize (D.nd (B.getD j 0)).2.1 = lo at *
          generalize (D.nd (B.getD j 0)).2.2 = hi at *
          generalize B.getD j 0 = i at *
          go_wp2
          go_region
          go_wp2
          go_roundg (B.length - (j + 1))
          case measure => have := HJ.out; omega
          case rel => exact ⟨j + 1, by omega, rfl, JN.out⟩
        · obtain rfl : j = B.length := by omega
          rw [List.take_of_length_le (Nat.le_refl _)] at s
          have J3 : Hid (Lp3 W1 d L W1.heap.size (.slice ab B.length cb) B k (Go.Proofs.YtngbodmooddjbaaGreat.swO D.order k) E S Fs 0 wr (D.swap0 k B) S L) := Lib.hid
            ⟨s, HI.out.start HK.out.1 FB.out.1 FB.out.2, rfl, fun _ _ => rfl⟩
          clear s hj HJ hlt FB
          go_wp2
          go_loopg [116] B.length (fun gk s z => ∃ (j : Nat) (D' : Dg) (S' : Nat → Bfn) (L' : DLay), j + gk = B.length ∧ s = .int .i64 (j : Int) ∧ Lp3 W1 d L W1.heap.size (.slice ab B.length cb) B k (Go.Proofs.YtngbodmooddjbaaGreat.swO D.order k) E S Fs j z D' S' L')
          case atStart => exact ⟨0, _, _, _, by omega, rfl, J3.out⟩
          case round =>
            clear J3
            obtain ⟨j, D', S', L', hj, rfl, t⟩ := hrel
            have HJ := Lib.hid hj
            by_cases hlt : j < B.length
            · have hlti : (j : Int) < B.length := by omega
              have n3 : j + 1 ≤ 10000000001 := by omega
              obtain ⟨hvx, hvy, hxl, hyl⟩ := HXY.out
              have hn : D'.n = D.n := by unfold Dg.n; rw [t.ord, swO_len]
              have hvk : D'.vr k = y := by
                show D'.order.getD k 0 = y
                rw [t.ord, swO_get HK.out.1, if_neg (by omega), if_pos rfl]; exact hvy
              have hvk1 : D'.vr (k + 1) = x := by
                show D'.order.getD (k + 1) 0 = x
                rw [t.ord, swO_get HK.out.1, if_pos rfl]; exact hvx
              have hk' : k + 1 < D'.n := by rw [hn]; exact HK.out.1
              obtain ⟨gb, cb', hv, q1, q2, q3, hcb, q4⟩ := ownsRow_open (row_zero t.st.row) (by omega)
              cases hv
              have d1 := hcb j (natV (B.getD j 0)) (natsAt_get hlt)
              have IV : D'.Inv k (B.getD j 0 :: B.drop (j + 1)) E S' Fs := by
                have e : B.drop j = B.getD j 0 :: B.drop (j + 1) := by
                  rw [List.drop_eq_getElem_cons hlt, List.getD_eq_getElem?_getD, List.getElem?_eq_getElem hlt]; rfl
                rw [← e]; exact t.inv
              generalize B.getD j 0 = i at *
              obtain ⟨P, hP⟩ : ∃ P, B.drop (j + 1) = P := ⟨_, rfl⟩
              rw [hP] at IV
              have HP := Lib.hid hP
              clear hP
              have RN := IV.rnd
              have m := IV.nd i RN.hl
              have hil : i < D'.len := RN.hl.2.1
              have hll : (D'.nd i).2.1 < D'.len := Dg.ok.lt IV m.lo
              have hhl : (D'.nd i).2.2 < D'.len := Dg.ok.lt IV m.hi
              have bd : BdD D' E Fs := ⟨by rw [hn]; have := HB.out.b; omega, by have := HB.out.e; omega⟩
              obtain ⟨g, cap, hs, q5, hcm, hcel, q6⟩ := t.st.rep.cel (by omega)
              have c1 := t.st.rep.c1
              obtain ⟨k0, k1, k2, k3⟩ := hcel i hil
              have plt := heap_lt t.st.rep.blk
              have glt := World.block_lt_of_cell? _ _ k1
              have gblt := World.block_lt_of_cell? _ _ d1
              have hlen : D'.len ≤ 9223372036854775807 := by have := bd.len IV; omega
              have n1 : (i : Int) < D'.len := by omega
              rw [hs] at c1
              unfold natV at d1
              have T := Lib.hid t
              have HIV := Lib.hid IV
              have HRN := Lib.hid RN
              have HBD := Lib.hid bd
              have HVR := Lib.hid (And.intro hvk (And.intro hvk1 (And.intro hk' hn)))
              have HIL := Lib.hid (And.intro hil (And.intro hll hhl))
              obtain ⟨lo, hlo⟩ : ∃ lo, (D'.nd i).2.1 = lo := ⟨_, rfl⟩
              obtain ⟨hi, hhi⟩ : ∃ hi, (D'.nd i).2.2 = hi := ⟨_, rfl⟩
              rw [hlo] at k1
              rw [hhi] at k2
              have HLH := Lib.hid (And.intro hlo hhi)
              have Q1 : Hid (StQ W1 d L W1.heap.size (.slice (some ⟨gb, 0, none⟩) B.length cb) B [(wr.heap.size, .cells #[.int .i64 (lo : Int), .int .i64 (hi : Int)] 129 (0, 0))] (wr.alloc (.cells #[.int .i64 (lo : Int), .int .i64 (hi : Int)] 129)) D' L') := Lib.hid
                ((StQ.mk t.st (fun q h => by cases h)).push _)
              clear q1 q2 q3 q4 q5 q6 k0 k3 t hj hs hcm hcel IV RN m hil hll hhl bd hvk hvk1 hk' hn hlo hhi hvx hvy hxl hyl hcb
              go_upto_region 18 with fail
              clear c1 d1 k1 k2 plt glt gblt n1 hlen
              generalize (wr.alloc (.cells #[.int .i64 (lo : Int), .int .i64 (hi : Int)] 129)) = A1 at *
              obtain ⟨b0, hb0⟩ : ∃ b0, wr.heap.size = b0 := ⟨_, rfl⟩
              rw [hb0] at Q1 ⊢
              clear hb0
              -- split, twice
              obtain ⟨j0, j1, jb⟩ := Q1.out.cellBox (.head _)
              have C1 := Lib.hid (Split_ok lo y Q1.out.st.rep (by rw [← HLH.out.1]; exact HIL.out.2.1))
              go_wp2_with fail
              refine C1.out.mono ?_
              rintro e A2 ⟨rfl, k2⟩
              have Q2 := Lib.hid (Q1.out.no k2)
              clear k2 j0 j1 jb C1 Q1
              obtain ⟨j0, j1, jb⟩ := Q2.out.cellBox (.head _)
              have C1 := Lib.hid (Split_ok hi y Q2.out.st.rep (by rw [← HLH.out.2]; exact HIL.out.2.2))
              go_wp2_with fail
              refine C1.out.mono ?_
              rintro e A3 ⟨rfl, k2⟩
              have Q3 := Lib.hid (Q2.out.no k2)
              clear k2 j0 j1 jb C1 Q2
              -- use, twice
              have USE1 : Hid (Calls Tryz.prog 91 #[ptr d, .int .i64 (x : Int), .int .i64 (D'.sp0 lo y : Int), .int .i64 (D'.sp0 hi y : Int)] A3 fun e w' => ∃ (r : Nat) (D1 : Dg) (S1 : Nat → Bfn), e = .returned (.int .i64 (r : Int)) ∧ DRet d L' A3 D1 w' ∧ Dg.UseP D' k (i :: P) E S' Fs (D'.sp0 lo y) (D'.sp0 hi y) D1 r S1) := Lib.hid (by
                obtain ⟨hvk, hvk1, hk', hn⟩ := HVR.out
                obtain ⟨h1, h2⟩ := HLH.out
                have RN := HRN.out
                have l0 := RN.l0
                have h0 := RN.h0
                have f0 := RN.f0
                have rr := RN.r false
                rw [h1, hvk] at l0
                rw [h2, hvk] at h0
                have := Use_ok HIV.out HBD.out hk' Q3.out.st.rep l0 h0 (by rw [h1, h2, hvk] at f0; rw [f0, ← hvk]; exact rr)
                rw [hvk1] at this
                exact this)
              go_wp2_with fail
              refine USE1.out.mono ?_
              rintro e A4 ⟨uA, D1, S1, rfl, ret1, u1⟩
              obtain ⟨L1, q4⟩ := Q3.out.dret ret1
              have Q4 := Lib.hid q4
              have U1 := Lib.hid u1
              clear q4 u1 ret1 USE1 Q3
              have USE2 : Hid (Calls Tryz.prog 91 #[ptr d, .int .i64 (x : Int), .int .i64 (D'.sp1 lo y : Int), .int .i64 (D'.sp1 hi y : Int)] A4 fun e w' => ∃ (r : Nat) (D2 : Dg) (S2 : Nat → Bfn), e = .returned (.int .i64 (r : Int)) ∧ DRet d L1 A4 D2 w' ∧ Dg.UseP D1 k (i :: P) (uA :: E) S1 Fs (D'.sp1 lo y) (D'.sp1 hi y) D2 r S2) := Lib.hid (by
                obtain ⟨hvk, hvk1, hk', hn⟩ := HVR.out
                obtain ⟨h1, h2⟩ := HLH.out
                have RN := HRN.out
                have U := U1.out
                have l1 := RN.l1
                have h3 := RN.h1
                have f1 := RN.f1
                have rr := RN.r true
                rw [h1, hvk] at l1
                rw [h2, hvk] at h3
                have en : D1.n = D'.n := U.n
                have bd : BdD D1 (uA :: E) Fs := ⟨by rw [en]; exact HBD.out.b, by rw [List.length_cons]; have := HB.out.e; omega⟩
                have := Use_ok U.inv bd (by rw [en]; exact hk') Q4.out.st.rep (U.low l1) (U.low h3) (by
                  rw [(U.old _ h3.o).2.1, (U.old _ l1.o).2.1, U.vr]
                  rw [h1, h2, hvk] at f1
                  rw [f1, ← hvk]; exact rr)
                rw [U.vr, hvk1] at this
                exact this)
              go_wp2_with fail
              refine USE2.out.mono ?_
              rintro e A5 ⟨uB, D2, S2, rfl, ret2, u2⟩
              obtain ⟨L2, q5⟩ := Q4.out.dret ret2
              have Q5 := Lib.hid q5
              have TR : Hid (Dg.Trn D' D2 k i uA uB P E S' S2 Fs) := Lib.hid (by
                obtain ⟨hvk, hvk1, hk', hn⟩ := HVR.out
                obtain ⟨h1, h2⟩ := HLH.out
                refine HIV.out.trn (D1 := D1) (S1 := S1) ?_ ?_
                · rw [h1, h2, hvk]; exact U1.out
                · rw [h1, h2, hvk]; exact u2)
              clear q5 u2 ret2 USE2 Q4
              -- the new children
              have Q6 := Lib.hid (Q5.out.push (.cells #[.int .i64 (uA : Int), .int .i64 (uB : Int)] 129 (0, 0)))
              clear Q5
              go_upto_region 21 with fail
              generalize (A5.alloc (.cells #[.int .i64 (uA : Int), .int .i64 (uB : Int)] 129)) = A6 at *
              obtain ⟨b2, hb2⟩ : ∃ b2, A5.heap.size = b2 := ⟨_, rfl⟩
              rw [hb2] at Q6 ⊢
              clear hb2
              have hi2 : i < D2.len := TR.out.li.2.1
              have en2 : D2.n = D'.n := by unfold Dg.n; rw [TR.out.ord]
              have bd2 : D2.len ≤ 9223372036854775807 := by
                have h1 := TR.out.inv.len
                have h2 : (D2.turn k i uA uB).n = D'.n := en2
                have h3 := HBD.out.b
                rw [h2] at h1
                have h4 : D2.len ≤ Fs.length * 3 ^ D'.n + 2 := h1
                omega
              have HI2 := Lib.hid (And.intro hi2 (And.intro en2 bd2))
              -- the variable
              obtain ⟨g2, cap2, hs2, q1, q2, hcel, hz⟩ := Q6.out.st.rep.cel (by omega)
              obtain ⟨k0, k1, k2, k3⟩ := hcel i hi2
              have z0 := hz (i * 4)
              have c1 := Q6.out.st.rep.c1
              rw [hs2] at c1
              have plt := heap_lt Q6.out.st.rep.blk
              have glt := World.block_lt_of_cell? _ _ k0
              have n1 : (i : Int) < D2.len := by omega
              have HS2 := Lib.hid hs2
              have Q7 := Lib.hid (Q6.out.k0 hs2 hi2 (y : Int))
              clear Q6 hs2 q1 q2 hcel hz k1 k2 k3 hi2 en2
              go_upto_region 22 with fail
              clear k0 z0 c1 plt glt
              generalize (A6.setCell ⟨g2, i * 4, none⟩ (.int .i64 (y : Int))) = A7 at *
              -- the children
              obtain ⟨g2', cap2', hs2, q1, q2, hcel, hz⟩ := Q7.out.st.rep.cel (by show 0 < D2.len; omega)
              rw [HS2.out] at hs2
              cases hs2
              obtain ⟨k0, k1, k2, k3⟩ := hcel i HI2.out.1
              have z1 := hz (i * 4 + 1)
              have z2 := hz (i * 4 + 2)
              have c1 := Q7.out.st.rep.c1
              rw [HS2.out] at c1
              replace c1 : A7.cell? ⟨d, 1, none⟩ = some (.slice (some ⟨g2, 0, none⟩) D2.len cap2) := c1
              obtain ⟨j0, j1, jb⟩ := Q7.out.cellBox (.head _)
              have plt := heap_lt Q7.out.st.rep.blk
              have glt := World.block_lt_of_cell? _ _ k1
              have Q8 := Lib.hid ((Q7.out.k12 HS2.out HI2.out.1 uA uB).no Kp.drew)
              rw [show i * 4 + 2 = i * 4 + 1 + 1 from rfl] at Q8
              clear Q7 q1 q2 hcel hz k0 k3
              go_region
              go_upto_region 23 with fail
              clear k1 k2 z1 z2 c1 j0 j1 jb plt glt
              generalize ((A7.setCell ⟨g2, i * 4 + 1, none⟩ (.int .i64 (uA : Int))).setCell ⟨g2, i * 4 + 1 + 1, none⟩ (.int .i64 (uB : Int))).drew = A8 at *
              -- the entry
              have hyl2 : y < D2.order.length := by
                have h1 : D2.order.length = D.order.length := (HI2.out.2.1.trans HVR.out.2.2.2)
                rw [h1]; exact HXY.out.2.2.2
              have hol : D2.order.length ≤ 9223372036854775807 := by
                have h1 : D2.order.length = D.order.length := (HI2.out.2.1.trans HVR.out.2.2.2)
                rw [h1]; exact b3
              obtain ⟨gt2, ct2, hst2, q1, q2, ktb⟩ := Q8.out.st.rep.tab_at (v := y) hyl2
              have c2 := Q8.out.st.rep.c2
              rw [hst2] at c2
              replace c2 : A8.cell? ⟨d, 2, none⟩ = some (.slice (some ⟨gt2, 0, none⟩) D2.order.length ct2) := c2
              obtain ⟨A9, hup, t9⟩ := Q8.out.tabset (v := y) hyl2 ((uA : Int), (uB : Int)) (by
                have := TR.out.tb
                rw [HVR.out.1] at this
                exact this) i
              have up : (Instr.mapUpdate 115 (.map (some (L2.tb.getD y 0))) (.agg #[.int .i64 (uA : Int), .int .i64 (uB : Int)]) (.int .i64 (i : Int))).run Tryz.prog A8.drew = .ok () A9.drew := hup 1
              have Q9 : Hid (StQ W1 d L W1.heap.size (.slice (some ⟨gb, 0, none⟩) B.length cb) B ((b2, .cells #[.int .i64 (uA : Int), .int .i64 (uB : Int)] 129 (0, 0)) :: [(b0, .cells #[.int .i64 (lo : Int), .int .i64 (hi : Int)] 129 (0, 0))]) A9.drew (D2.turn k i uA uB) L2) := Lib.hid (by
                rw [← Dg.turn_eq D2 k i uA uB y (by rw [TR.out.vr]; exact HVR.out.1)]
                exact t9.no Kp.drew)
              obtain ⟨j0, j1, jb⟩ := Q8.out.cellBox (.head _)
              have plt := heap_lt Q8.out.st.rep.blk
              have gtlt := World.block_lt_of_cell? _ _ ktb
              have n1 : (y : Int) < D2.order.length := by omega
              clear Q8 q1 q2 hst2 hup t9
              generalize L2.tb.getD y 0 = bm2 at *
              go_region
              clear c2 ktb j0 j1 jb plt gtlt n1 up hyl2 hol
              generalize A9.drew = A10 at *
              -- the old children
              obtain ⟨j0, j1, jb⟩ := Q9.out.cellBox (.tail _ (.head _))
              have TL : Hid ((D2.turn k i uA uB).liveL.length + E.length + 1 ≤ 100000000000) := Lib.hid (by
                have h1 := TR.out.inv.total_le
                have h2 := TR.out.inv.tot
                have h3 : (D2.turn k i uA uB).n = D.n := HI2.out.2.1.trans HVR.out.2.2.2
                rw [h3, h2] at h1
                have h4 := HB.out.b
                have h5 := HB.out.e
                omega)
              have DR1 : Hid (Calls Tryz.prog 92 #[ptr d, .int .i64 (lo : Int)] A10 (DropR d L2 A10 (D2.turn k i uA uB) k P (hi :: E) S2 Fs)) := Lib.hid (by
                obtain ⟨h1, h2⟩ := HLH.out
                have iv := TR.out.inv
                have p1 := TR.out.p1
                have d1 := TR.out.d1
                rw [h1, h2] at iv
                rw [h1] at p1 d1
                have h3 : (D2.turn k i uA uB).n = D.n := HI2.out.2.1.trans HVR.out.2.2.2
                exact Drop_ok _ (Nat.le_refl _) iv (by rw [h3]; have := HB.out.b; omega) (by rw [List.length_cons]; have := TL.out; omega) Q9.out.st.rep p1 d1)
              go_wp2_with fail
              refine DR1.out.mono ?_
              rintro e A11 ⟨rfl, D3, ret3, p3⟩
              obtain ⟨L3, q10⟩ := Q9.out.dret ret3
              have Q10 := Lib.hid q10
              have P3 := Lib.hid p3
              clear q10 p3 ret3 DR1 Q9 j0 j1 jb
              obtain ⟨j0, j1, jb⟩ := Q10.out.cellBox (.tail _ (.head _))
              have DR2 : Hid (Calls Tryz.prog 92 #[ptr d, .int .i64 (hi : Int)] A11 (DropR d L3 A11 D3 k P E S2 Fs)) := Lib.hid (by
                obtain ⟨h1, h2⟩ := HLH.out
                have p2 := TR.out.p2
                have d2 := TR.out.d3 (by rw [h2]; exact P3.out)
                rw [h2] at p2 d2
                have h3 : D3.n = D.n := by
                  unfold Dg.n
                  rw [P3.out.ord]
                  exact HI2.out.2.1.trans HVR.out.2.2.2
                have hl : D3.liveL.length ≤ (D2.turn k i uA uB).liveL.length := Mgr.nodup_length D3.liveL (D2.turn k i uA uB).liveL D3.liveL_nodup (fun x hx => Dg.mem_liveL.2 ((P3.out.ok x (.inr (Dg.mem_liveL.1 hx))).live (Dg.mem_liveL.1 hx).1))
                exact Drop_ok _ hl P3.out.inv (by rw [h3]; have := HB.out.b; omega) (by have := TL.out; omega) Q10.out.st.rep p2 d2)
              go_wp2_with fail
              refine DR2.out.mono ?_
              rintro e A12 ⟨rfl, D4, ret4, p4⟩
              obtain ⟨L4, q11⟩ := Q10.out.dret ret4
              have JN : Hid (Lp3 W1 d L W1.heap.size (.slice (some ⟨gb, 0, none⟩) B.length cb) B k (Go.Proofs.YtngbodmooddjbaaGreat.swO D.order k) E S Fs (j + 1) A12 D4 S2 L4) := Lib.hid (by
                obtain ⟨h1, h2⟩ := HLH.out
                obtain ⟨a1, a2, a3⟩ := TR.out.done (by rw [h2]; exact P3.out) p4
                refine ⟨q11.st, ?_, by rw [a2]; exact T.out.ord, fun e he => by rw [a3 e he]; exact T.out.ex e he⟩
                rw [HP.out]; exact a1)
              clear q11 p4 ret4 DR2 Q10 j0 j1 jb
              go_wp2
              go_roundg (B.length - (j + 1))
              case measure => have := HJ.out; omega
              case rel => exact ⟨j + 1, D4, S2, L4, by omega, rfl, JN.out⟩
            · obtain rfl : j = B.length := by omega
              have FIN : Hid (SwPost d L w D k E S Fs (.returned (.tuple #[])) wr) := Lib.hid ⟨rfl, D', S', DRet.trans K1.out (fun _ h => .inl h) t.st.ret, by
                have := t.inv
                rw [List.drop_length] at this
                exact this, t.ord, t.ex⟩
              have hge : ¬ (B.length : Int) < B.length := by omega
              clear t hj hlt
              go_wp2
              go_end0
              exact FIN.out
    · obtain ⟨hvx, hvy, hxl, hyl⟩ := HXY.out
      obtain ⟨q1, q2, q3⟩ := (HI.out.ent (v := x) hxl HND.out EL.out (kk, i)).1 hmem
      have q3 : kk = (((D.nd i).2.1 : Int), ((D.nd i).2.2 : Int)) := q3
      subst q3
      have m := HI.out.nd i q1
      obtain ⟨e2, row2, rep2, kp2⟩ := s.step R1.out kr it'
      have hlo := Dg.ok.lt HI.out m.lo
      have hhi := Dg.ok.lt HI.out m.hi
      obtain ⟨g, cap, hs, _, hcm, hcel, _⟩ := rep2.cel (by show 0 < D.len; omega)
      have c1 := rep2.c1
      have k0 : z.cell? ⟨g, (D.nd i).2.1 * 4, none⟩ = some (.int .i64 (D.nd (D.nd i).2.1).1) := (hcel _ hlo).1
      have k1 : z.cell? ⟨g, (D.nd i).2.2 * 4, none⟩ = some (.int .i64 (D.nd (D.nd i).2.2).1) := (hcel _ hhi).1
      have HYK : Hid ((D.swap0 k []).yK y ((((D.nd i).2.1 : Int), ((D.nd i).2.2 : Int)), i) = (decide ((D.nd (D.nd i).2.1).1 = (y : Int)) || decide ((D.nd (D.nd i).2.2).1 = (y : Int)))) := Lib.hid rfl
      have hfl : (D.found y Z).length ≤ 10000000000 := by
        have h1 := (HI.out.found_nd (v := x) (y := y) hxl HND.out EL.out s.it.nodup s.it.sub).2
        have h2 := HI.out.total_le
        have h3 := HB.out.b
        omega
      rw [hs] at c1
      have hlen : (D.swap0 k []).len ≤ 9223372036854775807 := by
        have := maxLen_val
        obtain ⟨_, _, _, h5⟩ := ownsRow_len rep2.cells
        omega
      replace c1 : z.cell? ⟨d, 1, none⟩ = some (.slice (some ⟨g, 0, none⟩) D.len cap) := c1
      replace hlen : D.len ≤ 9223372036854775807 := hlen
      have plt := heap_lt rep2.blk
      have glt := World.block_lt_of_cell? _ _ k0
      have n1 : ((D.nd i).2.1 : Int) < D.len := by omega
      have n2 : ((D.nd i).2.2 : Int) < D.len := by omega
      have hnx : ∀ ty, (Instr.next (.pointer (some ⟨r, 0, none⟩)) false ty).run Tryz.prog wr = .ok (.tuple #[.bool true, .agg #[.int .i64 ((D.nd i).2.1 : Int), .int .i64 ((D.nd i).2.2 : Int)], .int .i64 (i : Int)]) z := fun _ => hrun
      have hen : (Instr.entry (.pointer (some ⟨r, 0, none⟩))).run Tryz.prog z = .ok (.tuple #[.agg #[.int .i64 ((D.nd i).2.1 : Int), .int .i64 ((D.nd i).2.2 : Int)], .int .i64 (i : Int)]) z := hent
      have HLT := Lib.hid hlt
      have NXT : Hid (∀ A, Kp No z A → MapIt A bm r pairV natV l (Z ++ [((((D.nd i).2.1 : Int), ((D.nd i).2.2 : Int)), i)]) cnt' ∧ A.ownsRow W1.heap.size 3 1 bv (D.found y Z).length ((D.found y Z).map natV) ∧ DRep A d (D.swap0 k []) L ∧ Kp No W1 A) :=
        Lib.hid (fun A kA => ⟨e2.kp kA (fun h => h) (fun h => h), ownsRow_kp row2 kA (fun _ _ h => h), rep2.no kA, kp2.trans_no kA⟩)
      clear s S1 hmem hnin hrun it' hlt kr hz hent q1 q2 m e2 row2 rep2 kp2 hlo hhi hs hcm hcel hvx hvy hxl hyl
      generalize (D.nd (D.nd i).2.1).1 = a0 at *
      generalize (D.nd (D.nd i).2.2).1 = a1 at *
      generalize (D.nd i).2.1 = lo at *
      generalize (D.nd i).2.2 = hi at *
      by_cases e0 : a0 = (y : Int)
      · have YES := Lib.hid (HYK.out.trans (show (decide (a0 = (y : Int)) || decide (a1 = (y : Int))) = true by rw [decide_eq_true e0]; rfl))
        rw [e0] at k0
        clear e0
        clear HYK
        go_wp2
        go_quiet (fail)
        have SA := Lib.hid (NXT.out _ ((Kp.alloc (.cells #[.int .i64 (lo : Int), .int .i64 (hi : Int)] 129)).trans_no (Kp.drewN (w := z.alloc (.cells #[.int .i64 (lo : Int), .int .i64 (hi : Int)] 129)) nq)))
        clear c1 k0 k1 plt glt hnx hen n1 n2 hlen NXT
        generalize ((z.alloc (.cells #[.int .i64 (lo : Int), .int .i64 (hi : Int)] 129)).drewN nq) = A at *
        have own := SA.out.2.1
        have hsz := SA.out.2.2.2.size
        go_wp2_with (at_builtin; refine wpList_append_lies _ rfl (.tmp 86) (.tmp 88) _ rfl W1.heap.size 3 i0 _ 1 8 Tryz.underlying24 hi0 hz0 hz1 hz2 rfl (by omega) bv (D.found y Z).length ((D.found y Z).map natV) rfl (own.alloc _) ⟨A.heap.size, 0, none⟩ 1 1 [.int .i64 (i : Int)] rfl rfl (World.news_of_block (heap_alloc_new _ _)) (by simp [Value.oneCell']) (by omega) (by unfold maxLen; omega) (by omega) (by simp; omega) (A.heap.size + 1) (by simp) ?_; intro g' cap' A2 hown hgrow hat hlt2)
        have JN : Hid (Lp1 W1 d bm r y (D.swap0 k []) L l cnt' (.slice (some ⟨g', 0, none⟩) ((D.found y Z).length + 1) cap') A2 (Z ++ [(((lo : Int), (hi : Int)), i)])) := Lib.hid (by
          obtain ⟨t1, t2, t3, t4⟩ := SA.out
          exact Lp1.add R1.out (by rw [HR.out]; exact Nat.le_refl _) YES.out t1 t2 t3 t4 rfl hown (grown_no (Kp.alloc _) hgrow))
        clear hown hgrow hat hlt2 own hsz SA YES
        go_wp2
        go_roundg cnt'
        case measure => exact HLT.out
        case rel => exact ⟨_, _, rfl, JN.out⟩
      · by_cases e1 : a1 = (y : Int)
        · have YES := Lib.hid (HYK.out.trans (show (decide (a0 = (y : Int)) || decide (a1 = (y : Int))) = true by rw [decide_eq_true e1, Bool.or_true]))
          have e0' : (a0 == (y : Int)) = false := by simpa using e0
          rw [e1] at k1
          clear e0 e1
          clear HYK
          go_wp2
          go_quiet (fail)
          have SA := Lib.hid (NXT.out _ ((Kp.alloc (.cells #[.int .i64 (lo : Int), .int .i64 (hi : Int)] 129)).trans_no (Kp.drewN (w := z.alloc (.cells #[.int .i64 (lo : Int), .int .i64 (hi : Int)] 129)) nq)))
          clear c1 k0 k1 plt glt hnx hen n1 n2 hlen NXT
          generalize ((z.alloc (.cells #[.int .i64 (lo : Int), .int .i64 (hi : Int)] 129)).drewN nq) = A at *
          have own := SA.out.2.1
          have hsz := SA.out.2.2.2.size
          go_wp2_with (at_builtin; refine wpList_append_lies _ rfl (.tmp 86) (.tmp 88) _ rfl W1.heap.size 3 i0 _ 1 8 Tryz.underlying24 hi0 hz0 hz1 hz2 rfl (by omega) bv (D.found y Z).length ((D.found y Z).map natV) rfl (own.alloc _) ⟨A.heap.size, 0, none⟩ 1 1 [.int .i64 (i : Int)] rfl rfl (World.news_of_block (heap_alloc_new _ _)) (by simp [Value.oneCell']) (by omega) (by unfold maxLen; omega) (by omega) (by simp; omega) (A.heap.size + 1) (by simp) ?_; intro g' cap' A2 hown hgrow hat hlt2)
          have JN : Hid (Lp1 W1 d bm r y (D.swap0 k []) L l cnt' (.slice (some ⟨g', 0, none⟩) ((D.found y Z).length + 1) cap') A2 (Z ++ [(((lo : Int), (hi : Int)), i)])) := Lib.hid (by
            obtain ⟨t1, t2, t3, t4⟩ := SA.out
            exact Lp1.add R1.out (by rw [HR.out]; exact Nat.le_refl _) YES.out t1 t2 t3 t4 rfl hown (grown_no (Kp.alloc _) hgrow))
          clear hown hgrow hat hlt2 own hsz SA YES
          go_wp2
          go_roundg cnt'
          case measure => exact HLT.out
          case rel => exact ⟨_, _, rfl, JN.out⟩
        · have e0' : (a0 == (y : Int)) = false := by simpa using e0
          have e1' : (a1 == (y : Int)) = false := by simpa using e1
          have JN : Hid (∀ A, Kp No z A → Lp1 W1 d bm r y (D.swap0 k []) L l cnt' bv A (Z ++ [(((lo : Int), (hi : Int)), i)])) := Lib.hid (fun A kA => by
            have hy := HYK.out.trans (show (decide (a0 = (y : Int)) || decide (a1 = (y : Int))) = false by rw [decide_eq_false e0, decide_eq_false e1]; rfl)
            obtain ⟨t1, t2, t3, t4⟩ := NXT.out A kA
            exact Lp1.skip (by rw [HR.out]; exact Nat.le_refl _) hy t1 t2 t3 t4)
          clear e0 e1 HYK NXT
          go_wp2
          go_quiet (fail)
          go_wp2
          go_roundg cnt'
          case measure => exact HLT.out
          case rel => exact ⟨bv, _, rfl, JN.out _ ((Kp.alloc _).trans_no (Kp.drewN _))⟩

end Go.Proofs.YtngbodmooddjbaaGreat
