/-
  Walks: the law ReorderRefuses.
-/
import Derived.Test.YtngbodmooddjbaaPlb
namespace Go.Proofs.Ytngbodmooddjbaa
open Go.RowKit

theorem Place_any {l1 : List Nat} (hp : PermL l1) (hl : l1.length ≤ 6) (v lv : Int) : ∃ (b : Bool) (l2 : List Nat), l2.length = l1.length ∧ PermL l2 ∧
    (∀ {w : World} {ov : Value}, SrcAt w ov 1 l1.length (l1.map natV) → Calls Try.prog 39 #[ov, .int .i64 v, .int .i64 lv] w (RplPost w ov l1 l2 b)) ∧
    (∀ {w : World} {p : Nat} {M : Mgr} {L : Lay}, Rep w p M L → M.order = l1 → (visF M).length ≤ 50000 → M.nodes.length ≤ 500000000 → Calls Try.prog 40 #[ptr p, .int .i64 v, .int .i64 lv] w fun e w' => e = .returned (.bool b) ∧ ArS w p M L l2 w') := by
  by_cases h : (0 ≤ v ∧ v < l1.length) ∧ 0 ≤ lv ∧ lv < l1.length
  · obtain ⟨v', rfl⟩ := Int.eq_ofNat_of_zero_le h.1.1
    obtain ⟨lv', rfl⟩ := Int.eq_ofNat_of_zero_le h.2.1
    have hv : v' < l1.length := by have := h.1.2; omega
    have hlv : lv' < l1.length := by have := h.2.2; omega
    obtain ⟨k, hk, ek⟩ := List.getElem_of_mem (hp.has hv)
    have ek' : l1.getD k 0 = v' := by rw [List.getD_eq_getElem?_getD, List.getElem?_eq_getElem hk, ek]; rfl
    refine ⟨true, plO l1 k lv' v', plO_len hk, hp.pl hk ek, fun s => RefPlace_ok v' lv' k s (by omega) hv hlv hp.1 hk ek, fun {w p M L} R e hvis hm => ?_⟩
    have en : M.n = l1.length := by unfold Mgr.n; rw [e]
    refine (Place_ok v' lv' R (by omega) (by omega) (by omega) (by have := ar_bound (M := M) (by omega) hvis; unfold big; omega) (by omega)).mono ?_
    rintro e2 w' ⟨rfl, k', hk', ek2, a⟩
    rw [e] at hk' ek2 a
    obtain rfl : k' = k := hp.inj hk' hk (by rw [ek2, ek'])
    exact ⟨rfl, a⟩
  · refine ⟨false, l1, rfl, hp, fun s => RefPlace_bad v lv s (by omega) h, fun {w p M L} R e _ _ => ?_⟩
    have en : M.n = l1.length := by unfold Mgr.n; rw [e]
    refine (Place_bad v lv R (by omega) (by rw [en]; exact h)).mono ?_
    rintro e2 w' ⟨rfl, k⟩
    refine ⟨rfl, ?_⟩
    rw [← e]
    exact ArS.same R k

/-- A manager of one's own whose order is l, and that was new. -/
structure RfJ (w : World) (p n k : Nat) (l : List Nat) (y : World) (M : Mgr) (L : Lay) : Prop where
  own : Own w p y M L
  ord : M.order = l
  vis : ∀ f, M.vis f = (Mgr.new n).vis f
  nl : M.nodes.length ≤ k
theorem RfJ.no {w y z : World} {p n k : Nat} {l : List Nat} {M : Mgr} {L : Lay} (s : RfJ w p n k l y M L) (h : Kp No y z) : RfJ w p n k l z M L := ⟨s.own.no h, s.ord, s.vis, s.nl⟩
theorem RfJ.two {w y : World} {p n k : Nat} {l : List Nat} {M : Mgr} {L : Lay} (s : RfJ w p n k l y M L) : (visF M).length ≤ 2 := visF_le (Mgr.new_wf n) s.vis
theorem RfJ.ar {w y z : World} {p n k : Nat} {l l' : List Nat} {M : Mgr} {L : Lay} (s : RfJ w p n k l y M L) (hn : l.length ≤ 6) (h : ArS y p M L l' z) :
    ∃ M' L', RfJ w p n (k + 2000) l' z M' L' ∧ Kp (L.at p) y z ∧ ∀ x, L'.at p x → L.at p x ∨ y.heap.size ≤ x := by
  have b := ar_bound (M := M) (k := 2) (by unfold Mgr.n; rw [s.ord]; exact hn) s.two
  obtain ⟨M', L', r, o, v, sm, nl, kp, fr⟩ := h
  refine ⟨M', L', ⟨⟨r, s.own.kp.trans (A' := L.at p) (fun x hx => .inr (s.own.own x hx)) kp, fun x hx => ?_⟩, o, fun f => by rw [v, s.vis], ?_⟩, kp, fr⟩
  · rcases fr x hx with h1 | h1
    · exact s.own.own x h1
    · have := s.own.kp.size; omega
  · have := s.nl; omega
/-- A list of one's own beside the manager. -/
structure RfV (y : World) (p : Nat) (L : Lay) (v : Value) (r : List Nat) : Prop where
  src : SrcAt y v 1 r.length (r.map natV)
  pos : 0 < r.length
  off : ∀ g o n c, v = .slice (some ⟨g, o, none⟩) n c → ¬ L.at p g
  row : y.ownsRow 0 3 1 v r.length (r.map natV)
theorem RfV.own {y : World} {p : Nat} {L : Lay} {v : Value} {r : List Nat} (s : RfV y p L v r) : ∀ k, v.ownBlock = some k → ¬ L.at p k := fun k e => by
  obtain ⟨g, cap, hv, _⟩ := ownsRow_open s.row s.pos
  have h := s.off g _ _ _ hv
  rw [hv] at e
  simp [Value.ownBlock] at e
  rw [← e]; exact h
theorem RfV.lt {y : World} {p : Nat} {L : Lay} {v : Value} {r : List Nat} (s : RfV y p L v r) : ∀ g o n c, v = .slice (some ⟨g, o, none⟩) n c → g < y.heap.size := fun g o n c e => by
  obtain ⟨g', o', c', e', hl, _⟩ := s.src.cellAt s.pos
  rw [e] at e'
  cases e'
  exact hl
theorem RfV.no {y z : World} {p : Nat} {L : Lay} {v : Value} {r : List Nat} (s : RfV y p L v r) (k : Kp No y z) : RfV z p L v r := ⟨s.src.no k, s.pos, s.off, ownsRow_kp s.row k (fun _ _ h => h)⟩
theorem RfV.ar {y z : World} {p : Nat} {L L' : Lay} {v : Value} {r : List Nat} (s : RfV y p L v r) (k : Kp (L.at p) y z) (f : ∀ x, L'.at p x → L.at p x ∨ y.heap.size ≤ x) : RfV z p L' v r :=
  ⟨s.src.kp k (fun _ g o m c e => s.off g o m c e), s.pos, fun g o n c e h => by
    rcases f g h with h1 | h1
    · exact s.off g o n c e h1
    · have := s.lt g o n c e; omega, ownsRow_kp s.row k s.own⟩
theorem RfV.sub {y z : World} {p : Nat} {L : Lay} {v v' : Value} {r r' : List Nat} (s : RfV y p L v r) (hL : ∀ x, L.at p x → x < y.heap.size) (h : SrcAt z v' 1 r'.length (r'.map natV)) (hr : 0 < r'.length) (o : OffR y z v v' r r') (hl : r'.length = r.length) : RfV z p L v' r' :=
  ⟨h, hr, fun g a n c e hg => by
    rcases o.1 g a n c e with h1 | ⟨o', n', c', h1⟩
    · have := hL g hg; omega
    · exact s.off g o' n' c' h1 hg, by rw [hl]; exact o.2 s.row⟩
theorem SrcAt.toI {w : World} {v : Value} {l : List Nat} (h : SrcAt w v 1 l.length (l.map natV)) : SrcAt w v 1 (l.map Int.ofNat).length ((l.map Int.ofNat).map intV) := by
  rw [List.map_map, List.length_map]; exact h
/-- The order of a manager and a list that is the same. -/
theorem Ints_nat {a b : Value} {l : List Nat} {w : World} (ha : SrcAt w a 1 l.length (l.map natV)) (hb : SrcAt w b 1 l.length (l.map natV)) (hl : l.length ≤ 1000000) :
    Calls Try.prog 36 #[a, b] w fun e w' => e = .returned (.bool true) ∧ ∃ m, w' = w.drewN m :=
  Ints_eq ha.toI hb.toI (by rw [List.length_map]; exact hl)
theorem PermI.back {n : Nat} {l : List Int} (h : PermI n l) : (l.map Int.toNat).map Int.ofNat = l := by
  rw [List.map_map]
  conv => rhs; rw [← List.map_id l]
  exact List.map_congr_left fun v hv => Int.toNat_of_nonneg (h.2.2 v hv).1

set_option maxRecDepth 1000000 in
set_option maxHeartbeats 8000000 in
theorem ReorderRefuses_walk (x v lv : Int) (l : List Int) {ov : Value} {w : World} (hl : IntsAt w ov l) :
    Calls Try.prog 8 #[.int .i64 x, .int .i64 v, .int .i64 lv, ov] w fun e w' => e = .returned (.bool true) ∧ Kp No w w' := by
  obtain ⟨i0, hi0, hz0, hz1, hz2⟩ := info_parts info_int
  obtain ⟨hn1, hn6⟩ := nv_le x
  have VA := Lib.hid (fun w => Vars_ok x w)
  generalize nv x = n at *
  have NEW := Lib.hid (fun (w0 : World) (k0 : Kp No w w0) => New_own (n := n) (by omega) k0)
  have SRC := Lib.hid (SrcAt.of_intsAt hl)
  have hm1 := IntsAt.lenMax hl
  unfold maxLen at hm1
  obtain ⟨aw, cw, rfl, _, _⟩ := hl
  by_cases h20 : 20 < l.length
  · have h20i : (20 : Int) < l.length := by omega
    go_enter Try.func8, Try.ntmps8
    go_wp2_with fail
    refine (rawake_ok w).mono ?_
    rintro e w0 ⟨rfl, k0⟩
    have K0 := Lib.hid k0
    clear k0
    go_wp2_with fail
    go_ret
    exact ⟨rfl, K0.out⟩
  have h20i : ¬ (20 : Int) < l.length := by omega
  have H20 := Lib.hid h20
  clear h20
  go_enter Try.func8, Try.ntmps8
  go_wp2_with fail
  refine (rawake_ok w).mono ?_
  rintro e w0 ⟨rfl, k0⟩
  have K0 := Lib.hid k0
  clear k0
  go_wp2_with fail
  refine (VA.out w0).mono ?_
  rintro e w0' ⟨rfl, rfl⟩
  go_wp2_with fail
  refine (NEW.out w0 K0.out).mono ?_
  rintro e w1 ⟨p, L1, rfl, s1, k1⟩
  have J1 : Hid (RfJ w p n 2 (List.range n) w1 (Mgr.new n) L1) := Lib.hid ⟨s1, rfl, fun _ => rfl, Nat.le_refl _⟩
  clear s1 k1 NEW VA
  have HN := Lib.hid (And.intro hn1 hn6)
  go_wp2_with fail
  refine (Identity_ok n HN.out.2 w1).mono ?_
  rintro e w2 ⟨idv, rfl, row, k2⟩
  have V2 : Hid (RfV w2 p L1 idv (List.range n)) := Lib.hid ⟨SrcAt.of_row row, by rw [List.length_range]; have := HN.out.1; omega, fun g o m c e hg => by
    have h1 := (row.lt g (by rw [e]; rfl)).1
    have h2 := J1.out.own.rep.lt g hg
    omega, ownsRow_mono row (Nat.zero_le _)⟩
  have J2 := Lib.hid (J1.out.no k2)
  clear row k2 J1
  have RS := Lib.hid (RefSwap_ok lv V2.out.src (by rw [List.length_range]; have := HN.out.2; omega))
  have SW : Hid (∀ y, RfJ w p n 2 (List.range n) y (Mgr.new n) L1 → Calls Try.prog 34 #[ptr p, .int .i64 lv] y fun e w' => e = .returned (.bool (swV n lv)) ∧ ArS y p (Mgr.new n) L1 (if swV n lv then swO (List.range n) lv.toNat else List.range n) w') := Lib.hid (fun y s => by
    have h := Swap_any lv s.own.rep (by show (List.range n).length ≤ 6; rw [List.length_range]; exact HN.out.2) (Nat.le_trans s.two (by omega)) (Nat.le_trans s.nl (by omega))
    have en : (Mgr.new n).n = n := by show (List.range n).length = n; rw [List.length_range]
    rw [en] at h
    exact h)
  obtain ⟨b1, hb1⟩ : ∃ b, swV n lv = b := ⟨_, rfl⟩
  obtain ⟨l1, hl1⟩ : ∃ q, (if swV n lv then swO (List.range n) lv.toNat else List.range n) = q := ⟨_, rfl⟩
  have P1 : Hid (l1.length = n ∧ PermL l1) := Lib.hid (by
    rw [← hl1]
    split
    · rename_i e
      have hv : 0 ≤ lv ∧ lv < (n : Int) - 1 := of_decide_eq_true e
      exact ⟨by rw [swO_len, List.length_range], (PermL.range n).sw (by rw [List.length_range]; omega)⟩
    · exact ⟨List.length_range, PermL.range n⟩)
  go_wp2_with fail
  refine RS.out.mono ?_
  rintro e w3 ⟨rv1, rfl, s3, k3, o3⟩
  rw [List.length_range, hl1] at s3
  rw [List.length_range, hl1] at o3
  rw [List.length_range, hb1]
  rw [hl1, hb1] at SW
  clear hl1 hb1
  have J3 := Lib.hid (J2.out.no k3)
  have V3 : Hid (RfV w3 p L1 rv1 l1) := Lib.hid ((V2.out).sub (fun x hx => J2.out.own.rep.lt x hx) (by rw [P1.out.1]; exact s3) (by have := P1.out.1; have := HN.out.1; omega) o3 (by rw [P1.out.1, List.length_range]))
  clear s3 k3 o3 RS J2 V2
  have SW3 := Lib.hid (SW.out w3 J3.out)
  clear SW
  go_wp2_with fail
  refine SW3.out.mono ?_
  rintro e w4 ⟨rfl, a4⟩
  obtain ⟨M4, L4, j4, kp4, f4⟩ := J3.out.ar (by rw [List.length_range]; exact HN.out.2) a4
  have V4 := Lib.hid (V3.out.ar kp4 f4)
  have J4 := Lib.hid j4
  clear a4 j4 kp4 f4 J3 V3 SW3
  have ORD : Hid (∀ (y : World) (k : Nat) (q : List Nat) (M : Mgr) (L : Lay), RfJ w p n k q y M L → q.length = n → Calls Try.prog 38 #[ptr p] y (NatsPost y q)) := Lib.hid (fun y k q M L s e => by
    have h := Order_ok s.own.rep (by unfold Mgr.n; rw [s.ord, e]; have := HN.out.2; omega)
    rw [s.ord] at h
    exact h)
  have O4 := Lib.hid (ORD.out _ _ _ _ _ J4.out P1.out.1)
  go_wp2_with fail
  refine O4.out.mono ?_
  rintro e w5 ⟨ov5, rfl, row5, k5⟩
  have I5 := Lib.hid (Ints_nat (SrcAt.of_row row5) (V4.out.no k5).src (by have := P1.out.1; have := HN.out.2; omega))
  have J5 := Lib.hid (J4.out.no k5)
  have V5 := Lib.hid (V4.out.no k5)
  clear row5 k5 O4 J4 V4
  go_wp2_with fail
  refine I5.out.mono ?_
  rintro e w6 ⟨rfl, m6, rfl⟩
  have J6 := Lib.hid (J5.out.no (Kp.drewN m6))
  have V6 := Lib.hid (V5.out.no (Kp.drewN m6))
  clear I5 J5 V5
  generalize w5.drewN m6 = w6 at *
  -- 'Place'
  obtain ⟨b2, l2, e2, p2, rp2, pl2⟩ := Place_any P1.out.2 (by have := P1.out.1; have := HN.out.2; omega) v lv
  have P2 : Hid (l2.length = n ∧ PermL l2) := Lib.hid ⟨by rw [e2]; exact P1.out.1, p2⟩
  have RP := Lib.hid (rp2 V6.out.src)
  have PL : Hid (∀ y, RfJ w p n (2 + 2000) l1 y M4 L4 → Calls Try.prog 40 #[ptr p, .int .i64 v, .int .i64 lv] y fun e w' => e = .returned (.bool b2) ∧ ArS y p M4 L4 l2 w') := Lib.hid (fun y s => pl2 s.own.rep s.ord (Nat.le_trans s.two (by omega)) (Nat.le_trans s.nl (by omega)))
  clear e2 p2 rp2 pl2
  go_wp2_with fail
  refine RP.out.mono ?_
  rintro e w7 ⟨rv7, rfl, e7, s7, k7, o7⟩
  have J7 := Lib.hid (J6.out.no k7)
  have V7 : Hid (RfV w7 p L4 rv7 l2) := Lib.hid ((V6.out).sub (fun x hx => J6.out.own.rep.lt x hx) s7 (by have := P2.out.1; have := HN.out.1; omega) o7 e7)
  clear e7 s7 k7 o7 RP J6 V6
  have PL7 := Lib.hid (PL.out w7 J7.out)
  clear PL
  go_wp2_with fail
  refine PL7.out.mono ?_
  rintro e w8 ⟨rfl, a8⟩
  obtain ⟨M8, L8, j8, kp8, f8⟩ := J7.out.ar (by have := P1.out.1; have := HN.out.2; omega) a8
  have V8 := Lib.hid (V7.out.ar kp8 f8)
  have J8 := Lib.hid j8
  clear a8 j8 kp8 f8 J7 V7 PL7
  have O8 := Lib.hid (ORD.out _ _ _ _ _ J8.out P2.out.1)
  go_wp2_with fail
  refine O8.out.mono ?_
  rintro e w9 ⟨ov9, rfl, row9, k9⟩
  have I9 := Lib.hid (Ints_nat (SrcAt.of_row row9) (V8.out.no k9).src (by have := P2.out.1; have := HN.out.2; omega))
  have J9 := Lib.hid (J8.out.no k9)
  have V9 := Lib.hid (V8.out.no k9)
  clear row9 k9 O8 J8 V8
  go_wp2_with fail
  refine I9.out.mono ?_
  rintro e w10 ⟨rfl, m10, rfl⟩
  have J10 := Lib.hid (J9.out.no (Kp.drewN m10))
  have V10 := Lib.hid (V9.out.no (Kp.drewN m10))
  clear I9 J9 V9
  generalize w9.drewN m10 = w10 at *
  -- 'Set'
  have S10 := Lib.hid (SRC.out.no J10.out.own.kp)
  have RP := Lib.hid (RPerm_ok n l (by have := HN.out.2; omega) (by have := H20.out; omega) S10.out)
  go_wp2_with fail
  refine RP.out.mono ?_
  rintro e w11 ⟨rfl, m11, rfl⟩
  have J11 := Lib.hid (J10.out.no (Kp.drewN m11))
  have V11 := Lib.hid (V10.out.no (Kp.drewN m11))
  have S11 := Lib.hid (S10.out.no (Kp.drewN m11))
  clear RP J10 V10 S10
  generalize w10.drewN m11 = w11 at *
  have HONE : Hid (∀ x ∈ l.map intV, x.oneCell' = true) := Lib.hid (fun x hx => by obtain ⟨y, _, rfl⟩ := List.mem_map.1 hx; rfl)
  have hlen : l.length ≤ 20 := by have := H20.out; omega
  obtain ⟨b3, hb3⟩ : ∃ b, permB n l = b := ⟨_, rfl⟩
  rw [hb3]
  have B3 := Lib.hid hb3
  clear hb3
  have SETC : Hid (∀ (y : World) (sv : Value), RfJ w p n (2 + 2000 + 2000) l2 y M8 L8 → SrcAt y sv 1 l.length (l.map intV) → Calls Try.prog 32 #[ptr p, sv] y fun e w' => e = .returned (.bool b3) ∧ (b3 = true → PermI n l ∧ ArS y p M8 L8 (l.map Int.toNat) w') ∧ (b3 = false → Kp No y w')) := Lib.hid (fun y sv s h => by
    have en : M8.n = n := by unfold Mgr.n; rw [s.ord]; exact P2.out.1
    have bb := ar_bound (M := M8) (by rw [en]; exact HN.out.2) s.two
    refine (Set_ok s.own.rep (by rw [en]; have := HN.out.2; omega) h (by have := H20.out; omega) (by unfold big; omega) (by have := s.nl; omega)).mono ?_
    rintro e w' ⟨b, hb, rfl, h1, h2⟩
    rw [en] at hb
    obtain rfl : b = b3 := by
      rw [Bool.eq_iff_iff, hb, ← permB_iff, B3.out]
    exact ⟨rfl, fun e => ⟨hb.1 e, h1 e⟩, h2⟩)
  go_wp2_with (at_builtin; refine wpList_append_src rfl _ _ rfl (base := w11.heap.size) (v := .slice none 0 0) Try.underlying33 hi0 hz0 hz1 hz2 rfl (by omega) rfl (World.ownsRow_nil _ _ _ _) rfl S11.out HONE.out (by unfold maxLen; omega) (by omega) (by omega) ?_; intro v12 w12 hown12 hgrow12 hat12)
  have k12 : Kp No w11 w12 := (Kp.grown hgrow12).mono (fun x _ h => by simp [Value.ownBlock] at h)
  have s12 : SrcAt w12 v12 1 l.length (l.map intV) := by
    have h := SrcAt.of_row hown12
    simpa using h
  have SC := Lib.hid (SETC.out w12 v12 (J11.out.no k12) s12)
  have J12 := Lib.hid (J11.out.no k12)
  have V12 := Lib.hid (V11.out.no k12)
  have S12 := Lib.hid (S11.out.no k12)
  clear k12 s12 hown12 hgrow12 hat12 SETC J11 V11 S11
  refine SC.out.mono ?_
  rintro e w13 ⟨rfl, ht, hf⟩
  cases b3 with
  | false =>
    have k13 := hf rfl
    have J13 := Lib.hid (J12.out.no k13)
    have V13 := Lib.hid (V12.out.no k13)
    clear ht hf k13 J12 V12 S12 SC
    have O13 := Lib.hid (ORD.out _ _ _ _ _ J13.out P2.out.1)
    go_wp2_with fail
    refine O13.out.mono ?_
    rintro e w14 ⟨ov14, rfl, row14, k14⟩
    have I14 := Lib.hid (Ints_nat (SrcAt.of_row row14) (V13.out.no k14).src (by have := P2.out.1; have := HN.out.2; omega))
    have KF := Lib.hid (J13.out.no k14).own.kp
    clear row14 k14 O13 J13 V13
    go_wp2_with fail
    refine I14.out.mono ?_
    rintro e w15 ⟨rfl, m15, rfl⟩
    go_wp2_with fail
    go_ret
    exact ⟨rfl, KF.out.trans_no (Kp.drewN _)⟩
  | true =>
    obtain ⟨pi, a13⟩ := ht rfl
    obtain ⟨M13, L13, j13, _, _⟩ := J12.out.ar (by have := P2.out.1; have := HN.out.2; omega) a13
    have J13 := Lib.hid j13
    have PI := Lib.hid pi
    clear ht hf a13 j13 pi J12 V12 S12 SC
    have O13 := Lib.hid (ORD.out _ _ _ _ _ J13.out (by rw [List.length_map]; exact PI.out.1))
    go_wp2_with fail
    refine O13.out.mono ?_
    rintro e w14 ⟨ov14, rfl, row14, k14⟩
    have I14 := Lib.hid (Ints_eq (l := l) (w := w14) (by
      have h := (SrcAt.of_row row14).toI
      rw [PI.out.back] at h
      exact h) (SRC.out.no (J13.out.no k14).own.kp) (by have := H20.out; omega))
    have KF := Lib.hid (J13.out.no k14).own.kp
    clear row14 k14 O13 J13
    go_wp2_with fail
    refine I14.out.mono ?_
    rintro e w15 ⟨rfl, m15, rfl⟩
    go_wp2_with fail
    go_ret
    exact ⟨rfl, KF.out.trans_no (Kp.drewN _)⟩

end Go.Proofs.Ytngbodmooddjbaa
