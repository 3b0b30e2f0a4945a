/-
  Walks: 'Do' of the package netverifylaw28, the fourth way: 'Sift'.
-/
import Derived.Test.YtngbodmooddjbaaGreatSfw
import Derived.Test.YtngbodmooddjbaaGreatFx
import Derived.Test.YtngbodmooddjbaaGreatRrf
import Derived.Deep.QuietTactic
import Derived.BigQuiet
import Derived.Deep.CutBlock
import Derived.Outline
import Derived.IntWalk
namespace Go.Proofs.YtngbodmooddjbaaGreat
open Go.RowKit

/-- The state of a law that changes the order. -/
structure DoJ (w : World) (p n : Nat) (x : World) (M : Mgr) (L : Lay) (fv tv : Value) (fs : List Int) (Fs : List BF) (tvs : List Value) (l : List Nat) (M0 : Mgr) : Prop where
  fr : Front w p n x M L fv tv fs Fs tvs
  ord : M.order = l
  perm : PermL l
  len : l.length = n
  vis : ∀ f, M.vis f = M0.vis f
  sem : ∀ f, M0.vis f = true → ∀ a, M.sem f a = M0.sem f a
section
variable {w : World} {p n : Nat} {x y : World} {M M0 : Mgr} {L : Lay} {fv tv : Value} {fs : List Int} {Fs : List BF} {tvs : List Value} {l : List Nat}
theorem DoJ.no (j : DoJ w p n x M L fv tv fs Fs tvs l M0) (k : Kp No x y) : DoJ w p n y M L fv tv fs Fs tvs l M0 := ⟨j.fr.no k, j.ord, j.perm, j.len, j.vis, j.sem⟩
theorem DoJ.nn (j : DoJ w p n x M L fv tv fs Fs tvs l M0) : M.n = n := by unfold Mgr.n; rw [j.ord]; exact j.len
theorem DoJ.two (j : DoJ w p n x M L fv tv fs Fs tvs l M0) (h : M0.WF) : (visF M).length ≤ M0.nodes.length := visF_le h j.vis
theorem DoJ.ar {l' : List Nat} (j : DoJ w p n x M L fv tv fs Fs tvs l M0) (hn : n ≤ 6) (h0 : M0.WF) (hc : M0.nodes.length ≤ 50000) (hp : PermL l') (hl : l'.length = n) (h : ArS x p M L l' y) :
    ∃ M' L', DoJ w p n y M' L' fv tv fs Fs tvs l' M0 ∧ M'.nodes.length ≤ M.nodes.length + 36450008 ∧ Kp (L.at p) x y ∧ ∀ k, L'.at p k → L.at p k ∨ x.heap.size ≤ k := by
  obtain ⟨M', L', fr, o, v, s, nb, kp, f⟩ := j.fr.ar h
  have b := ar_bound (M := M) (k := 50000) (by rw [j.nn]; exact hn) (Nat.le_trans (j.two h0) hc)
  exact ⟨M', L', ⟨fr, o, hp, hl, fun f => by rw [v, j.vis], fun f hf a => by rw [s f (by rw [j.vis]; exact hf), j.sem f hf]⟩, by omega, kp, f⟩
end
/-- What 'Do' leaves. -/
def DoPost (w : World) (p n : Nat) (fv tv : Value) (fs : List Int) (Fs : List BF) (tvs : List Value) (M0 M : Mgr) (e : Ending) (y : World) : Prop :=
  ∃ (rv : Value) (l' : List Nat) (M' : Mgr) (L' : Lay), e = .returned (.tuple #[rv, .bool true]) ∧ DoJ w p n y M' L' fv tv fs Fs tvs l' M0 ∧ RfV y p L' rv l' ∧ M'.nodes.length ≤ M.nodes.length + 36450008
/-- What 'Do' needs. -/
structure DoB (n : Nat) (M0 M : Mgr) : Prop where
  n1 : 1 ≤ n
  n6 : n ≤ 6
  wf : M0.WF
  c0 : M0.nodes.length ≤ 50000
  c : M.nodes.length ≤ 460000000
theorem swV_len {n : Nat} {l : List Nat} (h : l.length = n) (v : Int) (hp : PermL l) : (if swV n v then swO l v.toNat else l).length = n ∧ PermL (if swV n v then swO l v.toNat else l) := by
  split
  · rename_i e
    have hv : 0 ≤ v ∧ v < (n : Int) - 1 := of_decide_eq_true e
    exact ⟨by rw [swO_len, h], hp.sw (by rw [h]; omega)⟩
  · exact ⟨h, hp⟩

/-! ### two places are exchanged -/
def exO (l : List Nat) (a b : Nat) : List Nat := (l.set a (l.getD b 0)).set b (l.getD a 0)
theorem exO_len (l : List Nat) (a b : Nat) : (exO l a b).length = l.length := by simp [exO]
theorem exO_get {l : List Nat} {a b : Nat} (ha : a < l.length) (hb : b < l.length) (i : Nat) : (exO l a b).getD i 0 = if i = b then l.getD a 0 else if i = a then l.getD b 0 else l.getD i 0 := by
  unfold exO
  rw [List.getD_eq_getElem?_getD, List.getElem?_set]
  by_cases h1 : b = i
  · subst h1
    rw [if_pos rfl, if_pos (by simpa using hb), if_pos rfl]; rfl
  · rw [if_neg h1, List.getElem?_set, if_neg (Ne.symm h1)]
    by_cases h2 : a = i
    · subst h2
      rw [if_pos rfl, if_pos ha, if_pos rfl]; rfl
    · rw [if_neg h2, if_neg (Ne.symm h2), ← List.getD_eq_getElem?_getD]
theorem PermL.ex {l : List Nat} (h : PermL l) {a b : Nat} (ha : a < l.length) (hb : b < l.length) : PermL (exO l a b) := by
  have at_ : ∀ {i : Nat} (hi : i < (exO l a b).length), (exO l a b)[i] = (exO l a b).getD i 0 := fun {i} hi => by rw [List.getD_eq_getElem?_getD, List.getElem?_eq_getElem hi]; rfl
  refine ⟨?_, fun v hv => ?_⟩
  · rw [List.nodup_iff_pairwise_ne, List.pairwise_iff_getElem]
    intro i j hi hj hij e
    rw [at_ hi, at_ hj, exO_get ha hb, exO_get ha hb] at e
    rw [exO_len] at hi hj
    have inj : ∀ {c d : Nat}, c < l.length → d < l.length → l.getD c 0 = l.getD d 0 → c = d := fun hc hd e => h.inj hc hd e
    split at e <;> split at e <;> (try split at e) <;> (try split at e) <;> first | omega | (have := inj (by omega) (by omega) e; omega)
  · obtain ⟨i, hi, rfl⟩ := List.getElem_of_mem hv
    rw [at_ hi, exO_get ha hb, exO_len]
    rw [exO_len] at hi
    split
    · exact h.lt ha
    · split
      · exact h.lt hb
      · exact h.lt hi
/-- 'Set' to a list that is an order. -/
theorem Set_perm {p : Nat} {M : Mgr} {L : Lay} {w : World} {l : List Nat} {ov : Value} (R : Rep w p M L) (hn : M.n ≤ 6) (src : SrcAt w ov 1 l.length (l.map natV)) (hp : PermL l) (hl : l.length = M.n) (hv : (visF M).length ≤ 50000) (hm : M.nodes.length ≤ 500000000000) :
    Calls Tryz.prog 22 #[ptr p, ov] w fun e w' => e = .returned (.bool true) ∧ ArS w p M L l w' := by
  have hb := ar_bound hn hv
  refine (Set_ok (l := l.map Int.ofNat) R (by omega) (by rw [List.length_map, List.map_map]; exact src) (by rw [List.length_map]; omega) (by unfold big; omega) hm).mono ?_
  rintro e w' ⟨b, hbb, rfl, h1, _⟩
  obtain rfl : b = true := hbb.2 (by
    refine ⟨by rw [List.length_map, hl], ?_, fun v hv => ?_⟩
    · have h := hp.1
      rw [List.nodup_iff_pairwise_ne] at h ⊢
      rw [List.pairwise_map]
      exact h.imp (fun {a b} hne e => hne (Int.ofNat.inj e))
    · obtain ⟨u, hu, rfl⟩ := List.mem_map.1 hv
      have := hp.2 u hu
      exact ⟨Int.natCast_nonneg _, by show (u : Int) < M.n; omega⟩)
  refine ⟨rfl, ?_⟩
  have := h1 rfl
  rwa [List.map_map, show (Int.toNat ∘ Int.ofNat) = id from rfl, List.map_id] at this

set_option maxRecDepth 1000000 in
set_option maxHeartbeats 4000000 in
theorem Do_swap {w : World} {p n : Nat} {x : World} {M M0 : Mgr} {L : Lay} {fv tv ov : Value} {fs : List Int} {Fs : List BF} {tvs : List Value} {l : List Nat} (A0 A1 A2 : Int) (j : DoJ w p n x M L fv tv fs Fs tvs l M0) (b : DoB n M0 M) (V : RfV x p L ov l) (hw : pick A0 4 = 0) :
    Calls Tryz.prog 9 #[ptr p, fv, ov, .agg #[.int .i64 A0, .int .i64 A1, .int .i64 A2]] x (DoPost w p n fv tv fs Fs tvs M0 M) := by
  have PK : Hid (∀ y, Calls Tryz.prog 11 #[.int .i64 A0, .int .i64 4] y fun e w' => e = .returned (.int .i64 0) ∧ y = w') := Lib.hid (fun y => by
    have := Pick_ok A0 4 y (by omega) (by omega)
    rw [hw] at this
    exact this)
  obtain ⟨af, cf, hfv, _⟩ := ownsRow_len (row_zero j.fr.frow)
  subst hfv
  obtain ⟨ao, co, rfl⟩ := V.src.form
  have B := Lib.hid b
  have J1 := Lib.hid (j.no (Kp.alloc (.cells #[.int .i64 A0, .int .i64 A1, .int .i64 A2] 37)))
  have V1 := Lib.hid (V.no (Kp.alloc (.cells #[.int .i64 A0, .int .i64 A1, .int .i64 A2] 37)))
  have HLEN := Lib.hid j.len
  have bx := heap_alloc_new x (.cells #[.int .i64 A0, .int .i64 A1, .int .i64 A2] 37)
  have BX : Hid (∀ y, Kp No (x.alloc (.cells #[.int .i64 A0, .int .i64 A1, .int .i64 A2] 37)) y → y.cell? ⟨x.heap.size, 0, none⟩ = some (.int .i64 A0) ∧ y.cell? ⟨x.heap.size, 1, none⟩ = some (.int .i64 A1) ∧ y.cell? ⟨x.heap.size, 2, none⟩ = some (.int .i64 A2) ∧ x.heap.size < y.heap.size) := Lib.hid (fun y k => by
    have h : y.heap[x.heap.size]? = _ := (k.block _ (heap_lt bx) (fun h => h)).trans bx
    exact ⟨by simp [World.cell?, h], by simp [World.cell?, h], by simp [World.cell?, h], heap_lt h⟩)
  clear j V b hw bx
  go_enter Tryz.func9, Tryz.ntmps9
  go_wp2_with fail
  generalize (x.alloc (.cells #[.int .i64 A0, .int .i64 A1, .int .i64 A2] 37)) = X at *
  obtain ⟨bb, hbb⟩ : ∃ bb, x.heap.size = bb := ⟨_, rfl⟩
  rw [hbb] at BX ⊢
  clear hbb
  refine (PK.out _).mono ?_
  rintro e X ⟨rfl, rfl⟩
  clear PK
  obtain ⟨f0, f1, f2, lb⟩ := BX.out X (Kp.refl _ _)
  obtain ⟨b1, hb1⟩ : ∃ b, swV n A1 = b := ⟨_, rfl⟩
  obtain ⟨l1, hl1⟩ : ∃ q, (if swV n A1 then swO l A1.toNat else l) = q := ⟨_, rfl⟩
  have P1 : Hid (l1.length = n ∧ PermL l1) := Lib.hid (by rw [← hl1]; exact swV_len HLEN.out A1 J1.out.perm)
  have RS : Hid (Calls Tryz.prog 38 #[.slice ao l.length co, .int .i64 A1] X fun e w' => ∃ rv, e = .returned (.tuple #[rv, .bool b1]) ∧ RfV w' p L rv l1 ∧ Kp No X w') := Lib.hid (by
    refine (RefSwap_ok A1 V1.out.src (by rw [HLEN.out]; have := B.out.n6; omega)).mono ?_
    rintro e w' ⟨rv, he, hs, k, o⟩
    rw [HLEN.out, hb1] at he
    rw [HLEN.out, hl1, ← P1.out.1] at hs
    rw [HLEN.out, hl1, ← HLEN.out] at o
    exact ⟨rv, he, V1.out.sub (fun z hz => J1.out.fr.own.rep.lt z hz) hs (by rw [P1.out.1]; exact B.out.n1) o (by rw [P1.out.1, HLEN.out]), k⟩)
  have SW : Hid (∀ y, Kp No X y → Calls Tryz.prog 25 #[ptr p, .int .i64 A1] y fun e w' => e = .returned (.bool b1) ∧ ArS y p M L l1 w') := Lib.hid (fun y k => by
    have h := Swap_any A1 (J1.out.no k).fr.own.rep (by rw [J1.out.nn]; exact B.out.n6) (Nat.le_trans (J1.out.two B.out.wf) B.out.c0) (by have := B.out.c; omega)
    rw [J1.out.nn, J1.out.ord, hl1, hb1] at h
    exact h)
  clear hl1 hb1
  go_wp2_with fail
  refine RS.out.mono ?_
  rintro e w2 ⟨rv, rfl, v2, k2⟩
  have J2 := Lib.hid (J1.out.no k2)
  have V2 := Lib.hid v2
  have SW2 := Lib.hid (SW.out w2 k2)
  clear f0 f1 f2 lb
  obtain ⟨f0, f1, f2, lb⟩ := BX.out w2 k2
  clear v2 k2 RS SW J1 V1 BX
  go_wp2_with fail
  refine SW2.out.mono ?_
  rintro e w3 ⟨rfl, a3⟩
  obtain ⟨M', L', j3, nb3, kp3, f3⟩ := J2.out.ar B.out.n6 B.out.wf B.out.c0 P1.out.2 P1.out.1 a3
  have FIN : Hid (DoPost w p n (.slice af fs.length cf) tv fs Fs tvs M0 M (.returned (.tuple #[rv, .bool true])) w3) := Lib.hid ⟨_, _, M', L', rfl, j3, V2.out.ar kp3 f3, nb3⟩
  clear a3 j3 nb3 kp3 f3 SW2 J2 V2 f0 f1 f2 lb
  cases b1 with
  | false =>
    go_wp2
    go_ret2
    exact FIN.out
  | true =>
    go_wp2
    go_ret2
    exact FIN.out

set_option maxRecDepth 1000000 in
set_option maxHeartbeats 4000000 in
theorem Do_place {w : World} {p n : Nat} {x : World} {M M0 : Mgr} {L : Lay} {fv tv ov : Value} {fs : List Int} {Fs : List BF} {tvs : List Value} {l : List Nat} (A0 A1 A2 : Int) (j : DoJ w p n x M L fv tv fs Fs tvs l M0) (b : DoB n M0 M) (V : RfV x p L ov l) (hw : pick A0 4 = 1) :
    Calls Tryz.prog 9 #[ptr p, fv, ov, .agg #[.int .i64 A0, .int .i64 A1, .int .i64 A2]] x (DoPost w p n fv tv fs Fs tvs M0 M) := by
  have PK : Hid (∀ y, Calls Tryz.prog 11 #[.int .i64 A0, .int .i64 4] y fun e w' => e = .returned (.int .i64 1) ∧ y = w') := Lib.hid (fun y => by
    have := Pick_ok A0 4 y (by omega) (by omega)
    rw [hw] at this
    exact this)
  obtain ⟨af, cf, hfv, _⟩ := ownsRow_len (row_zero j.fr.frow)
  subst hfv
  obtain ⟨ao, co, rfl⟩ := V.src.form
  have B := Lib.hid b
  have J1 := Lib.hid (j.no (Kp.alloc (.cells #[.int .i64 A0, .int .i64 A1, .int .i64 A2] 37)))
  have V1 := Lib.hid (V.no (Kp.alloc (.cells #[.int .i64 A0, .int .i64 A1, .int .i64 A2] 37)))
  have HLEN := Lib.hid j.len
  have bx := heap_alloc_new x (.cells #[.int .i64 A0, .int .i64 A1, .int .i64 A2] 37)
  have BX : Hid (∀ y, Kp No (x.alloc (.cells #[.int .i64 A0, .int .i64 A1, .int .i64 A2] 37)) y → y.cell? ⟨x.heap.size, 0, none⟩ = some (.int .i64 A0) ∧ y.cell? ⟨x.heap.size, 1, none⟩ = some (.int .i64 A1) ∧ y.cell? ⟨x.heap.size, 2, none⟩ = some (.int .i64 A2) ∧ x.heap.size < y.heap.size) := Lib.hid (fun y k => by
    have h : y.heap[x.heap.size]? = _ := (k.block _ (heap_lt bx) (fun h => h)).trans bx
    exact ⟨by simp [World.cell?, h], by simp [World.cell?, h], by simp [World.cell?, h], heap_lt h⟩)
  clear j V b hw bx
  go_enter Tryz.func9, Tryz.ntmps9
  go_wp2_with fail
  generalize (x.alloc (.cells #[.int .i64 A0, .int .i64 A1, .int .i64 A2] 37)) = X at *
  obtain ⟨bb, hbb⟩ : ∃ bb, x.heap.size = bb := ⟨_, rfl⟩
  rw [hbb] at BX ⊢
  clear hbb
  refine (PK.out _).mono ?_
  rintro e X ⟨rfl, rfl⟩
  clear PK
  obtain ⟨f0, f1, f2, lb⟩ := BX.out X (Kp.refl _ _)
  obtain ⟨b1, l1, e1, p1, rp, pl⟩ := Place_any J1.out.perm (by rw [HLEN.out]; exact B.out.n6) A1 A2
  have P1 : Hid (l1.length = n ∧ PermL l1) := Lib.hid ⟨by rw [e1]; exact HLEN.out, p1⟩
  have RS : Hid (Calls Tryz.prog 39 #[.slice ao l.length co, .int .i64 A1, .int .i64 A2] X fun e w' => ∃ rv, e = .returned (.tuple #[rv, .bool b1]) ∧ RfV w' p L rv l1 ∧ Kp No X w') := Lib.hid (by
    refine (rp V1.out.src).mono ?_
    rintro e w' ⟨rv, he, _, hs, k, o⟩
    exact ⟨rv, he, V1.out.sub (fun z hz => J1.out.fr.own.rep.lt z hz) hs (by rw [P1.out.1]; exact B.out.n1) o (by rw [P1.out.1, HLEN.out]), k⟩)
  have SW : Hid (∀ y, Kp No X y → Calls Tryz.prog 40 #[ptr p, .int .i64 A1, .int .i64 A2] y fun e w' => e = .returned (.bool b1) ∧ ArS y p M L l1 w') := Lib.hid (fun y k => pl (J1.out.no k).fr.own.rep J1.out.ord (Nat.le_trans (J1.out.two B.out.wf) B.out.c0) (by have := B.out.c; omega))
  clear e1 p1 rp pl
  go_wp2_with fail
  refine RS.out.mono ?_
  rintro e w2 ⟨rv, rfl, v2, k2⟩
  have J2 := Lib.hid (J1.out.no k2)
  have V2 := Lib.hid v2
  have SW2 := Lib.hid (SW.out w2 k2)
  clear f0 f1 f2 lb
  obtain ⟨f0, f1, f2, lb⟩ := BX.out w2 k2
  clear v2 k2 RS SW J1 V1 BX
  go_wp2_with fail
  refine SW2.out.mono ?_
  rintro e w3 ⟨rfl, a3⟩
  obtain ⟨M', L', j3, nb3, kp3, f3⟩ := J2.out.ar B.out.n6 B.out.wf B.out.c0 P1.out.2 P1.out.1 a3
  have FIN : Hid (DoPost w p n (.slice af fs.length cf) tv fs Fs tvs M0 M (.returned (.tuple #[rv, .bool true])) w3) := Lib.hid ⟨_, _, M', L', rfl, j3, V2.out.ar kp3 f3, nb3⟩
  clear a3 j3 nb3 kp3 f3 SW2 J2 V2 f0 f1 f2 lb
  cases b1 with
  | false =>
    go_wp2
    go_ret2
    exact FIN.out
  | true =>
    go_wp2
    go_ret2
    exact FIN.out

set_option maxRecDepth 1000000 in
set_option maxHeartbeats 4000000 in
theorem Do_set {w : World} {p n : Nat} {x : World} {M M0 : Mgr} {L : Lay} {fv tv ov : Value} {fs : List Int} {Fs : List BF} {tvs : List Value} {l : List Nat} (A0 A1 A2 : Int) (j : DoJ w p n x M L fv tv fs Fs tvs l M0) (b : DoB n M0 M) (V : RfV x p L ov l) (hw : pick A0 4 = 2) :
    Calls Tryz.prog 9 #[ptr p, fv, ov, .agg #[.int .i64 A0, .int .i64 A1, .int .i64 A2]] x (DoPost w p n fv tv fs Fs tvs M0 M) := by
  obtain ⟨i0, hi0, hz0, hz1, hz2⟩ := info_parts info_int
  have PK : Hid (∀ y, Calls Tryz.prog 11 #[.int .i64 A0, .int .i64 4] y fun e w' => e = .returned (.int .i64 2) ∧ y = w') := Lib.hid (fun y => by
    have := Pick_ok A0 4 y (by omega) (by omega)
    rw [hw] at this
    exact this)
  obtain ⟨af, cf, hfv, _⟩ := ownsRow_len (row_zero j.fr.frow)
  subst hfv
  obtain ⟨ao, co, rfl⟩ := V.src.form
  have B := Lib.hid b
  have J1 := Lib.hid (j.no (Kp.alloc (.cells #[.int .i64 A0, .int .i64 A1, .int .i64 A2] 37)))
  have V1 := Lib.hid (V.no (Kp.alloc (.cells #[.int .i64 A0, .int .i64 A1, .int .i64 A2] 37)))
  have HLEN := Lib.hid j.len
  have bx := heap_alloc_new x (.cells #[.int .i64 A0, .int .i64 A1, .int .i64 A2] 37)
  have BX : Hid (∀ y, Kp No (x.alloc (.cells #[.int .i64 A0, .int .i64 A1, .int .i64 A2] 37)) y → y.cell? ⟨x.heap.size, 0, none⟩ = some (.int .i64 A0) ∧ y.cell? ⟨x.heap.size, 1, none⟩ = some (.int .i64 A1) ∧ y.cell? ⟨x.heap.size, 2, none⟩ = some (.int .i64 A2) ∧ x.heap.size < y.heap.size) := Lib.hid (fun y k => by
    have h : y.heap[x.heap.size]? = _ := (k.block _ (heap_lt bx) (fun h => h)).trans bx
    exact ⟨by simp [World.cell?, h], by simp [World.cell?, h], by simp [World.cell?, h], heap_lt h⟩)
  clear j V b hw bx
  go_enter Tryz.func9, Tryz.ntmps9
  go_wp2_with fail
  generalize (x.alloc (.cells #[.int .i64 A0, .int .i64 A1, .int .i64 A2] 37)) = X at *
  obtain ⟨bb, hbb⟩ : ∃ bb, x.heap.size = bb := ⟨_, rfl⟩
  rw [hbb] at BX ⊢
  clear hbb
  refine (PK.out _).mono ?_
  rintro e X ⟨rfl, rfl⟩
  clear PK
  obtain ⟨f0, f1, f2, lb⟩ := BX.out X (Kp.refl _ _)
  have HONE : Hid (∀ (q : List Nat), ∀ z ∈ q.map natV, z.oneCell' = true) := Lib.hid (fun q z hz => by obtain ⟨y, _, rfl⟩ := List.mem_map.1 hz; rfl)
  have hl6 : l.length ≤ 6 := by rw [HLEN.out]; exact B.out.n6
  have hl1 : 1 ≤ l.length := by rw [HLEN.out]; exact B.out.n1
  have S1 := Lib.hid V1.out.src
  go_wp2_with (at_builtin; refine wpList_append_src rfl _ _ rfl (base := X.heap.size) (v := .slice none 0 0) Tryz.underlying24 hi0 hz0 hz1 hz2 rfl (by omega) rfl (World.ownsRow_nil _ _ _ _) rfl S1.out (HONE.out l) (by unfold maxLen; omega) (by omega) (by omega) ?_; intro v2 w2 hown hgrow hat)
  have k2 : Kp No X w2 := (Kp.grown hgrow).mono (fun z _ h => by simp [Value.ownBlock] at h)
  have row : w2.ownsRow X.heap.size 3 1 v2 l.length (l.map natV) := by simpa using hown
  have ROW := Lib.hid row
  have K2 := Lib.hid k2
  clear f0 f1 f2 lb
  obtain ⟨f0, f1, f2, lb⟩ := BX.out w2 k2
  clear hown hgrow hat k2 S1 row
  have ha := pick_lt A1 (n := l.length) (by omega)
  have hb := pick_lt A2 (n := l.length) (by omega)
  have PKA : Hid (∀ y, Calls Tryz.prog 11 #[.int .i64 A1, .int .i64 (l.length : Int)] y fun e w' => e = .returned (.int .i64 (pick A1 l.length : Int)) ∧ w' = y) := Lib.hid (fun y => (Pick_ok A1 l.length y (by omega) (by omega)).mono fun _ _ h => ⟨h.1, h.2.symm⟩)
  have PKB : Hid (∀ y, Calls Tryz.prog 11 #[.int .i64 A2, .int .i64 (l.length : Int)] y fun e w' => e = .returned (.int .i64 (pick A2 l.length : Int)) ∧ w' = y) := Lib.hid (fun y => (Pick_ok A2 l.length y (by omega) (by omega)).mono fun _ _ h => ⟨h.1, h.2.symm⟩)
  obtain ⟨a, hae⟩ : ∃ a, pick A1 l.length = a := ⟨_, rfl⟩
  obtain ⟨b, hbe⟩ : ∃ a, pick A2 l.length = a := ⟨_, rfl⟩
  rw [hae] at PKA ha
  rw [hbe] at PKB hb
  clear hae hbe
  go_wp2
  go_cut [16, 17] (fun s16 s17 y => s16 = .int .i64 (a : Int) ∧ s17 = .int .i64 (b : Int) ∧ Kp No w2 y)
  case first =>
    go_region_with (first | ((with_reducible refine (PKA.out _).mono ?_); rintro e w' ⟨rfl, rfl⟩) | ((with_reducible refine (PKB.out _).mono ?_); rintro e w' ⟨rfl, rfl⟩))
    all_goals
      go_wp2
      go_meet
      case rel => exact ⟨rfl, rfl, by first | exact Kp.drew | exact Kp.drewN _⟩
  case rest =>
    obtain ⟨rfl, rfl, kc⟩ := hcut
    have KC := Lib.hid kc
    have ROWC := Lib.hid (ownsRow_kp ROW.out kc (fun _ _ h => h))
    obtain ⟨gw, cw, hvw, q1, q2, q3, hcw, hzw⟩ := ownsRow_open (row_zero ROWC.out) (by omega)
    subst hvw
    have dA := hcw a _ (natsAt_get ha)
    have dB := hcw b _ (natsAt_get hb)
    have zA := hzw a
    have zB := hzw b
    unfold natV at dA dB
    have glt := World.block_lt_of_cell? _ _ dA
    have n1 : (a : Int) < l.length := by omega
    have n2 : (b : Int) < l.length := by omega
    have n3 : (0 : Int) ≤ a := by omega
    have n4 : (0 : Int) ≤ b := by omega
    have OFFW : Hid (¬ L.at p gw ∧ X.heap.size ≤ gw) := Lib.hid (by
      have h1 := (ROWC.out.lt gw rfl).1
      exact ⟨fun h => by have := J1.out.fr.own.rep.lt gw h; omega, h1⟩)
    have R2 : Hid (∀ y, Kp No wc y → ((y.setCell ⟨gw, a, none⟩ (.int .i64 ((l.getD b 0 : Nat) : Int))).setCell ⟨gw, b, none⟩ (.int .i64 ((l.getD a 0 : Nat) : Int))).ownsRow 0 3 1 (.slice (some ⟨gw, 0, none⟩) l.length cw) l.length ((exO l a b).map natV) ∧ Kp (fun z => z = gw) wc ((y.setCell ⟨gw, a, none⟩ (.int .i64 ((l.getD b 0 : Nat) : Int))).setCell ⟨gw, b, none⟩ (.int .i64 ((l.getD a 0 : Nat) : Int)))) := Lib.hid (fun y ky => by
      have h := ownsRow_store (ownsRow_store (row_zero (ownsRow_kp ROWC.out ky (fun _ _ h => h))) a (.int .i64 ((l.getD b 0 : Nat) : Int))) b (.int .i64 ((l.getD a 0 : Nat) : Int))
      have hk : ∀ (y : World) (i : Nat) (v : Value), Kp (fun z => z = gw) y (y.setCell ⟨gw, i, none⟩ v) := fun y i v => (Kp.setCell ⟨gw, i, none⟩ v).mono (fun _ _ e => e)
      refine ⟨?_, ky.no_trans ((hk _ _ _).trans (A' := fun z => z = gw) (fun _ h => .inl h) (hk _ _ _))⟩
      unfold exO
      rw [List.map_set, List.map_set]
      exact h)
    clear q1 q2 q3 hcw hzw kc ROW f0 f1 f2 lb
    obtain ⟨ua, hua⟩ : ∃ u, l.getD a 0 = u := ⟨_, rfl⟩
    obtain ⟨ub, hub⟩ : ∃ u, l.getD b 0 = u := ⟨_, rfl⟩
    rw [hua] at dA
    rw [hub] at dB
    rw [hua, hub] at R2
    have HUU := Lib.hid (And.intro hua hub)
    clear hua hub
    go_wp2
    go_cut [] (fun y => y.ownsRow 0 3 1 (.slice (some ⟨gw, 0, none⟩) l.length cw) l.length ((exO l a b).map natV) ∧ Kp (fun z => z = gw) wc y)
    case first =>
      by_cases hab : a = b
      · subst hab
        obtain rfl : ua = ub := by rw [← HUU.out.1, ← HUU.out.2]
        go_region
        all_goals
          go_wp2
          go_meet
          case rel => first | exact R2.out _ (Kp.refl _ _) | exact R2.out _ Kp.drew | exact R2.out _ (Kp.drewN _) | (obtain ⟨h1, h2⟩ := R2.out _ (Kp.refl _ _); exact ⟨ownsRow_kp h1 Kp.drew (fun _ _ h => h), h2.trans_no Kp.drew⟩)
      · have hba : ¬ b = a := fun h => hab h.symm
        go_region
        all_goals
          go_wp2
          go_meet
          case rel => first | exact R2.out _ (Kp.refl _ _) | exact R2.out _ Kp.drew | exact R2.out _ (Kp.drewN _) | (obtain ⟨h1, h2⟩ := R2.out _ (Kp.refl _ _); exact ⟨ownsRow_kp h1 Kp.drew (fun _ _ h => h), h2.trans_no Kp.drew⟩)
    case rest =>
      obtain ⟨row3, k3⟩ := hcut
      have K3 := Lib.hid ((K2.out.trans_no KC.out).trans (A' := fun z => z = gw) (fun z h => .inr (by rw [h]; exact OFFW.out.2)) k3)
      have ROW3 := Lib.hid row3
      obtain ⟨l2, hl2⟩ : ∃ q, exO l a b = q := ⟨_, rfl⟩
      have P2 : Hid (l2.length = l.length ∧ PermL l2) := Lib.hid (by rw [← hl2]; exact ⟨exO_len _ _ _, J1.out.perm.ex ha hb⟩)
      rw [hl2] at ROW3
      clear dA dB zA zB glt R2 row3 k3 hl2
      generalize wc = W3 at *
      obtain ⟨gw', cw', hvw, q1, q2, q3, hcw, hzw⟩ := ownsRow_open ROW3.out (by omega)
      cases hvw
      have hm1 : l.length - 1 < l2.length := by rw [P2.out.1]; omega
      have dA := hcw 0 _ (natsAt_get (by omega))
      have dB := hcw (l.length - 1) _ (natsAt_get hm1)
      have zA := hzw 0
      have zB := hzw (l.length - 1)
      unfold natV at dA dB
      have glt := World.block_lt_of_cell? _ _ dA
      have e1 : IntKind.i64.wrap ((l.length : Int) - 1) = ((l.length - 1 : Nat) : Int) := by rw [IntWalk.i64_in _ (by omega)]; omega
      have n5 : ((l.length - 1 : Nat) : Int) < l.length := by omega
      have n6 : (0 : Int) ≤ ((l.length - 1 : Nat) : Int) := by omega
      have n7 : (0 : Int) < l.length := by omega
      obtain ⟨ml, hml⟩ : ∃ q, l.length - 1 = q := ⟨_, rfl⟩
      rw [hml] at dB zB e1 n5 n6 hm1
      have R3 : Hid (∀ y, Kp No W3 y → ((y.setCell ⟨gw, 0, none⟩ (.int .i64 ((l2.getD ml 0 : Nat) : Int))).setCell ⟨gw, ml, none⟩ (.int .i64 ((l2.getD 0 0 : Nat) : Int))).ownsRow 0 3 1 (.slice (some ⟨gw, 0, none⟩) l.length cw) l.length ((exO l2 0 ml).map natV) ∧ Kp (fun z => z = gw) W3 ((y.setCell ⟨gw, 0, none⟩ (.int .i64 ((l2.getD ml 0 : Nat) : Int))).setCell ⟨gw, ml, none⟩ (.int .i64 ((l2.getD 0 0 : Nat) : Int)))) := Lib.hid (fun y ky => by
        have h := ownsRow_store (ownsRow_store (ownsRow_kp ROW3.out ky (fun _ _ h => h)) 0 (.int .i64 ((l2.getD ml 0 : Nat) : Int))) ml (.int .i64 ((l2.getD 0 0 : Nat) : Int))
        have hk : ∀ (y : World) (i : Nat) (v : Value), Kp (fun z => z = gw) y (y.setCell ⟨gw, i, none⟩ v) := fun y i v => (Kp.setCell ⟨gw, i, none⟩ v).mono (fun _ _ e => e)
        refine ⟨?_, ky.no_trans ((hk _ _ _).trans (A' := fun z => z = gw) (fun _ h => .inl h) (hk _ _ _))⟩
        unfold exO
        rw [List.map_set, List.map_set]
        exact h)
      have P3 : Hid (PermL (exO l2 0 ml) ∧ (exO l2 0 ml).length = l.length) := Lib.hid ⟨P2.out.2.ex (by omega) hm1, by rw [exO_len]; exact P2.out.1⟩
      obtain ⟨ua, hua⟩ : ∃ u, l2.getD 0 0 = u := ⟨_, rfl⟩
      obtain ⟨ub, hub⟩ : ∃ u, l2.getD ml 0 = u := ⟨_, rfl⟩
      rw [hua] at dA
      rw [hub] at dB
      rw [hua, hub] at R3
      have HUU := Lib.hid (And.intro hua hub)
      clear hua hub q1 q2 q3 hcw hzw hml hm1
      go_wp2
      go_cut [] (fun y => y.ownsRow 0 3 1 (.slice (some ⟨gw, 0, none⟩) l.length cw) l.length ((exO l2 0 ml).map natV) ∧ Kp (fun z => z = gw) W3 y)
      case first =>
        by_cases hab : ml = 0
        · subst hab
          obtain rfl : ua = ub := by rw [← HUU.out.1, ← HUU.out.2]
          go_region
          all_goals
            go_wp2
            go_meet
            case rel => first | exact R3.out _ (Kp.refl _ _) | exact R3.out _ Kp.drew | exact R3.out _ (Kp.drewN _) | (obtain ⟨h1, h2⟩ := R3.out _ (Kp.refl _ _); exact ⟨ownsRow_kp h1 Kp.drew (fun _ _ h => h), h2.trans_no Kp.drew⟩)
        · have hba : ¬ 0 = ml := fun h => hab h.symm
          go_region
          all_goals
            go_wp2
            go_meet
            case rel => first | exact R3.out _ (Kp.refl _ _) | exact R3.out _ Kp.drew | exact R3.out _ (Kp.drewN _) | (obtain ⟨h1, h2⟩ := R3.out _ (Kp.refl _ _); exact ⟨ownsRow_kp h1 Kp.drew (fun _ _ h => h), h2.trans_no Kp.drew⟩)
      case rest =>
        obtain ⟨row4, k4⟩ := hcut
        have K4 := Lib.hid (K3.out.trans (A' := fun z => z = gw) (fun z h => .inr (by rw [h]; exact OFFW.out.2)) k4)
        obtain ⟨l3, hl3⟩ : ∃ q, exO l2 0 ml = q := ⟨_, rfl⟩
        rw [hl3] at row4 P3
        have ROW4 := Lib.hid row4
        have S4 := Lib.hid (SrcAt.of_row row4)
        clear dA dB zA zB glt R3 row4 k4 hl3
        generalize wc = W4 at *
        have J4 := Lib.hid (J1.out.no K4.out)
        have SETC : Hid (∀ y sv, Kp No W4 y → SrcAt y sv 1 l3.length (l3.map natV) → Calls Tryz.prog 22 #[ptr p, sv] y fun e w' => e = .returned (.bool true) ∧ ArS y p M L l3 w') := Lib.hid (fun y sv k src => Set_perm (J4.out.no k).fr.own.rep (by rw [J4.out.nn]; exact B.out.n6) src P3.out.1 (by rw [P3.out.2, HLEN.out, J4.out.nn]) (Nat.le_trans (J4.out.two B.out.wf) B.out.c0) (by have := B.out.c; omega))
        go_wp2_with (at_builtin; refine wpList_append_src rfl _ _ rfl (base := W4.heap.size) (v := .slice none 0 0) Tryz.underlying24 hi0 hz0 hz1 hz2 rfl (by omega) rfl (World.ownsRow_nil _ _ _ _) rfl S4.out (HONE.out l3) (by unfold maxLen; omega) (by omega) (by omega) ?_; intro v5 w5 hown hgrow hat)
        have k5 : Kp No W4 w5 := (Kp.grown hgrow).mono (fun z _ h => by simp [Value.ownBlock] at h)
        have SC := Lib.hid (SETC.out w5 v5 k5 (by
          have h := SrcAt.of_row hown
          rw [P3.out.2]
          simpa using h))
        have J5 := Lib.hid (J4.out.no k5)
        have V5 : Hid (RfV w5 p L (.slice (some ⟨gw, 0, none⟩) l.length cw) l3) := Lib.hid ⟨by rw [P3.out.2]; exact S4.out.no k5, by rw [P3.out.2, HLEN.out]; exact B.out.n1, fun g o m c e => by cases e; exact OFFW.out.1, by rw [P3.out.2]; exact ownsRow_kp (ownsRow_mono ROW4.out (Nat.zero_le _)) k5 (fun _ _ h => h)⟩
        clear k5 hown hgrow hat S4 SETC ROW4
        refine SC.out.mono ?_
        rintro e w6 ⟨rfl, a6⟩
        obtain ⟨M', L', j6, nb6, kp6, f6⟩ := J5.out.ar B.out.n6 B.out.wf B.out.c0 P3.out.1 (by rw [P3.out.2]; exact HLEN.out) a6
        have FIN : Hid (DoPost w p n (.slice af fs.length cf) tv fs Fs tvs M0 M (.returned (.tuple #[.slice (some ⟨gw, 0, none⟩) l.length cw, .bool true])) w6) := Lib.hid ⟨_, _, M', L', rfl, j6, V5.out.ar kp6 f6, nb6⟩
        clear a6 j6 nb6 kp6 f6 SC J5 V5
        go_wp2
        go_ret2
        exact FIN.out

end Go.Proofs.YtngbodmooddjbaaGreat

namespace Go.Proofs.YtngbodmooddjbaaGreat
open Go.RowKit

/-- The variables that are listed so far. -/
def DvR (X : World) (m gk : Nat) (s18 s19 : Value) (y : World) : Prop := ∃ (v : Nat) (q : List Nat) (vv : Value), v + gk = m ∧ s19 = .int .i64 (v : Int) ∧ vv = s18 ∧ q.length ≤ v ∧ y.ownsRow X.heap.size 3 1 vv q.length (q.map natV) ∧ Kp No X y
set_option maxRecDepth 1000000 in
set_option maxHeartbeats 4000000 in
theorem Do_sift {w : World} {p n : Nat} {x : World} {M M0 : Mgr} {L : Lay} {fv tv ov : Value} {fs : List Int} {Fs : List BF} {tvs : List Value} {l : List Nat} (A0 A1 A2 : Int) (j : DoJ w p n x M L fv tv fs Fs tvs l M0) (b : DoB n M0 M) (V : RfV x p L ov l) (hw : pick A0 4 = 3) (hfp : 0 < fs.length) (hfs : fs.length ≤ 1000) :
    Calls Tryz.prog 9 #[ptr p, fv, ov, .agg #[.int .i64 A0, .int .i64 A1, .int .i64 A2]] x (DoPost w p n fv tv fs Fs tvs M0 M) := by
  obtain ⟨i0, hi0, hz0, hz1, hz2⟩ := info_parts info_int
  have PK : Hid (∀ y, Calls Tryz.prog 11 #[.int .i64 A0, .int .i64 4] y fun e w' => e = .returned (.int .i64 3) ∧ y = w') := Lib.hid (fun y => by
    have := Pick_ok A0 4 y (by omega) (by omega)
    rw [hw] at this
    exact this)
  obtain ⟨af, cf, hfv, _⟩ := ownsRow_len (row_zero j.fr.frow)
  subst hfv
  obtain ⟨ao, co, rfl⟩ := V.src.form
  have B := Lib.hid b
  have J1 := Lib.hid (j.no (Kp.alloc (.cells #[.int .i64 A0, .int .i64 A1, .int .i64 A2] 37)))
  have V1 := Lib.hid (V.no (Kp.alloc (.cells #[.int .i64 A0, .int .i64 A1, .int .i64 A2] 37)))
  have HLEN := Lib.hid j.len
  have bx := heap_alloc_new x (.cells #[.int .i64 A0, .int .i64 A1, .int .i64 A2] 37)
  have BX : Hid (∀ y, Kp No (x.alloc (.cells #[.int .i64 A0, .int .i64 A1, .int .i64 A2] 37)) y → y.cell? ⟨x.heap.size, 0, none⟩ = some (.int .i64 A0) ∧ y.cell? ⟨x.heap.size, 1, none⟩ = some (.int .i64 A1) ∧ y.cell? ⟨x.heap.size, 2, none⟩ = some (.int .i64 A2) ∧ x.heap.size < y.heap.size) := Lib.hid (fun y k => by
    have h : y.heap[x.heap.size]? = _ := (k.block _ (heap_lt bx) (fun h => h)).trans bx
    exact ⟨by simp [World.cell?, h], by simp [World.cell?, h], by simp [World.cell?, h], heap_lt h⟩)
  clear j V b hw bx
  go_enter Tryz.func9, Tryz.ntmps9
  go_wp2_with fail
  generalize (x.alloc (.cells #[.int .i64 A0, .int .i64 A1, .int .i64 A2] 37)) = X at *
  obtain ⟨bb, hbb⟩ : ∃ bb, x.heap.size = bb := ⟨_, rfl⟩
  rw [hbb] at BX ⊢
  clear hbb
  refine (PK.out _).mono ?_
  rintro e X ⟨rfl, rfl⟩
  clear PK
  obtain ⟨f0, f1, f2, lb⟩ := BX.out X (Kp.refl _ _)
  have hl6 : l.length ≤ 6 := by rw [HLEN.out]; exact B.out.n6
  go_wp2
  go_loopg [18, 19] l.length (fun gk s18 s19 y => DvR X l.length gk s18 s19 y)
  case atStart => exact ⟨0, [], _, by omega, rfl, rfl, Nat.le_refl _, World.ownsRow_nil _ _ _ _, Kp.refl _ _⟩
  case round =>
    obtain ⟨v, q, vv, hv, rfl, e18, hq, row, kp⟩ := hrel
    subst e18
    have HV := Lib.hid hv
    have KP := Lib.hid kp
    have ROW := Lib.hid row
    have HQ := Lib.hid hq
    by_cases hlt : v < l.length
    · have hlti : (v : Int) < l.length := by omega
      clear f0 f1 f2 lb
      obtain ⟨f0, f1, f2, lb⟩ := BX.out wr kp
      have hsz := kp.size
      have hq6 : q.length ≤ 6 := by omega
      clear hv kp hq
      go_upto_region 20 with fail
      · go_wp2_with (at_builtin; refine wpList_append_lies _ rfl (.tmp 117) (.tmp 119) _ rfl X.heap.size 3 i0 _ 1 8 Tryz.underlying24 hi0 hz0 hz1 hz2 rfl (by omega) vv q.length (q.map natV) rfl (row.alloc _) ⟨wr.heap.size, 0, none⟩ 1 1 [.int .i64 (v : Int)] rfl rfl (World.news_of_block (heap_alloc_new _ _)) (by simp [Value.oneCell']) (by omega) (by unfold maxLen; omega) (by omega) (by simp; omega) (wr.heap.size + 1) (by simp) ?_; intro g5 cap5 w5 hown hgrow hat hlt5)
        have JN : Hid (DvR X l.length (l.length - (v + 1)) (.slice (some ⟨g5, 0, none⟩) (q.length + 1) cap5) (.int .i64 ((v + 1 : Nat) : Int)) w5) := Lib.hid (by
          have kg : Kp (fun z => vv.ownBlock = some z) wr w5 := grown_no (Kp.alloc _) hgrow
          refine ⟨v + 1, q ++ [v], _, by omega, rfl, rfl, by rw [List.length_append]; have := HQ.out; simp; omega, ?_, KP.out.trans (A' := fun z => vv.ownBlock = some z) (fun z h => .inr (ROW.out.lt z h).1) kg⟩
          rw [List.length_append, List.map_append]
          exact hown)
        clear hown hgrow hat hlt5 row
        go_wp2
        go_roundg (l.length - (v + 1))
        case measure => have := HV.out; omega
        case rel => exact JN.out
      · go_roundg (l.length - (v + 1))
        case measure => have := HV.out; omega
        case rel => exact ⟨v + 1, q, vv, by omega, by go_num, rfl, by have := HQ.out; omega, ROW.out, KP.out⟩
    · obtain rfl : v = l.length := by omega
      have hge : ¬ (l.length : Int) < l.length := by omega
      have J2 := Lib.hid (J1.out.no kp)
      clear f0 f1 f2 lb
      obtain ⟨f0, f1, f2, lb⟩ := BX.out wr kp
      obtain ⟨aq, cq, rfl, _⟩ := ownsRow_len (row_zero row)
      have PKF : Hid (∀ y, Calls Tryz.prog 11 #[.int .i64 A1, .int .i64 (fs.length : Int)] y fun e w' => e = .returned (.int .i64 (pick A1 fs.length : Int)) ∧ y = w') := Lib.hid (fun y => Pick_ok A1 fs.length y hfp (by omega))
      have hp := pick_lt A1 (n := fs.length) hfp
      obtain ⟨k, hk⟩ : ∃ k, pick A1 fs.length = k := ⟨_, rfl⟩
      rw [hk] at PKF hp
      clear hv kp hq row hk hlt
      go_wp2_with fail
      refine (PKF.out _).mono ?_
      rintro e w5 ⟨rfl, rfl⟩
      obtain ⟨gf, cf', gt, ct, hfv, htv, _, _⟩ := J2.out.fr.forms hfp
      cases hfv
      have fc := J2.out.fr.cellF hp
      have fl := World.block_lt_of_cell? _ _ fc
      have n1 : (k : Int) < fs.length := by omega
      obtain ⟨fq, hfq⟩ : ∃ z, fs.getD k 0 = z := ⟨_, rfl⟩
      rw [hfq] at fc
      have J3 := Lib.hid (J2.out.no (Kp.alloc (.cells #[.int .i64 fq] 40)))
      have SIFT : Hid (Calls Tryz.prog 41 #[ptr p, .slice (some ⟨wr.heap.size, 0, none⟩) 1 1, .slice aq q.length cq] (wr.alloc (.cells #[.int .i64 fq] 40)) (SftP (wr.alloc (.cells #[.int .i64 fq] 40)) p M L (q.map Int.ofNat) ((vld M [fq]).map M.sem))) := Lib.hid (by
        have hv := Nat.le_trans (J3.out.two B.out.wf) B.out.c0
        have hb := ar_bound (M := M) (by rw [J3.out.nn]; exact B.out.n6) hv
        have h3 := three_pow B.out.n6
        refine Sift_ok [fq] (q.map Int.ofNat) J3.out.fr.own.rep (mem_ints wr [fq] 40) ?_ (by simp) (by rw [List.length_map]; have := HQ.out; omega) (by have := B.out.c; omega) (by rw [J3.out.nn]; have := B.out.n6; omega) (by unfold big; omega) (by rw [J3.out.nn]; show 1 * 3 ^ n ≤ _; omega)
        rw [List.length_map, List.map_map]
        exact (SrcAt.of_row ROW.out).no (Kp.alloc _))
      clear hfq fl hp htv
      go_wp2_with fail
      refine SIFT.out.mono ?_
      rintro e w6 ⟨l6, t, t0, rfl, a6, sd⟩
      obtain ⟨M', L', j6, nb6, kp6, f6⟩ := J3.out.ar B.out.n6 B.out.wf B.out.c0 sd.perm (by rw [sd.len, J3.out.nn]) a6
      have J6 := Lib.hid j6
      have ORD := Lib.hid (Order_ok j6.fr.own.rep (by rw [j6.nn]; have := B.out.n6; omega))
      have NB := Lib.hid nb6
      clear a6 sd j6 nb6 kp6 f6 SIFT J3 J2 fc
      go_wp2_with fail
      refine ORD.out.mono ?_
      rintro e w7 ⟨ov, rfl, orow, k7⟩
      rw [J6.out.ord] at orow
      have FIN : Hid (DoPost w p n (.slice (some ⟨gf, 0, none⟩) fs.length cf) tv fs Fs tvs M0 M (.returned (.tuple #[ov, .bool true])) w7) := Lib.hid ⟨_, l6, M', L', rfl, J6.out.no k7, ⟨SrcAt.of_row orow, by rw [J6.out.len]; exact B.out.n1, fun g o m c e h => by
        have h1 := (orow.lt g (by rw [e]; rfl)).1
        have h2 := J6.out.fr.own.rep.lt g h
        omega, ownsRow_mono orow (Nat.zero_le _)⟩, NB.out⟩
      obtain ⟨aov, cov, rfl, _⟩ := ownsRow_len (row_zero orow)
      clear orow k7 ORD J6
      go_wp2
      go_ret2
      exact FIN.out

theorem Do_ok {w : World} {p n : Nat} {x : World} {M M0 : Mgr} {L : Lay} {fv tv ov : Value} {fs : List Int} {Fs : List BF} {tvs : List Value} {l : List Nat} (A0 A1 A2 : Int) (j : DoJ w p n x M L fv tv fs Fs tvs l M0) (b : DoB n M0 M) (V : RfV x p L ov l) (hfp : 0 < fs.length) (hfs : fs.length ≤ 1000) :
    Calls Tryz.prog 9 #[ptr p, fv, ov, .agg #[.int .i64 A0, .int .i64 A1, .int .i64 A2]] x (DoPost w p n fv tv fs Fs tvs M0 M) := by
  have h := pick_lt A0 (n := 4) (by omega)
  have h4 : pick A0 4 = 0 ∨ pick A0 4 = 1 ∨ pick A0 4 = 2 ∨ pick A0 4 = 3 := by omega
  rcases h4 with h | h | h | h
  · exact Do_swap A0 A1 A2 j b V h
  · exact Do_place A0 A1 A2 j b V h
  · exact Do_set A0 A1 A2 j b V h
  · exact Do_sift A0 A1 A2 j b V h hfp hfs

end Go.Proofs.YtngbodmooddjbaaGreat
