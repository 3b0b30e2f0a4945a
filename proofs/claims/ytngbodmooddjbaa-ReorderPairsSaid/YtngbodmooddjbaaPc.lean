/-
  Walks: the law ReorderPairs.
-/
import Derived.Test.YtngbodmooddjbaaPb
import Derived.Test.YtngbodmooddjbaaSt2
namespace Go.Proofs.Ytngbodmooddjbaa
open Go.RowKit

theorem size_tot {M : Mgr} (h : M.WF) {f : Int} {F : Bfn} (hv : M.valid f = true) (hs : ∀ a, M.sem f.toNat a = F a) : IsTot M.order [F] (M.sizeM f) := by
  obtain ⟨m, hm, sm, _⟩ := Mgr.valid_nat h hv
  have t := Mgr.tot h (rs := [f.toNat]) (fun g hg => by rw [List.mem_singleton.1 hg, hm, Int.toNat_natCast]; exact sm)
  have e : [f.toNat].map M.sem = [F] := by
    rw [List.map_cons, List.map_nil, funext hs]
  rw [e] at t
  have e2 : M.sizeM f = (walkAll M [f.toNat]).2.length := by
    unfold Mgr.sizeM
    rw [if_pos hv]
    rfl
  rw [e2]
  exact t
theorem plain_order {M : Mgr} (h : M.WF) (hp : M.Plain) : M.order = List.range M.n := by
  refine getD_ext (by rw [List.length_range]; rfl) (fun i hi => ?_)
  have hi' : i < M.n := hi
  have := (h.ol i hi').2
  rw [hp i hi'] at this
  rw [range_getD hi']
  exact this
theorem permI_ord {n : Nat} {l : List Nat} (hp : PermL l) (hl : l.length = n) : PermI n (l.map Int.ofNat) := by
  refine ⟨by rw [List.length_map, hl], ?_, fun v hv => ?_⟩
  · have h := hp.1
    rw [List.nodup_iff_pairwise_ne] at h ⊢
    rw [List.pairwise_map]
    exact h.imp (fun {a b} hne e => hne (Int.ofNat.inj e))
  · obtain ⟨u, hu, rfl⟩ := List.mem_map.1 hv
    have := hp.2 u hu
    exact ⟨Int.natCast_nonneg _, by show (u : Int) < n; omega⟩
/-- 'Set' to a list that is an order. -/
theorem Set_nat {p : Nat} {M : Mgr} {L : Lay} {w : World} {l : List Nat} {ov : Value} (R : Rep w p M L) (hn : M.n ≤ 256) (src : SrcAt w ov 1 l.length (l.map natV)) (hp : PermL l) (hl : l.length = M.n) (hb : (visF M).length * 3 ^ M.n + M.n + 2 ≤ big) (hm : M.nodes.length ≤ 500000000000) :
    Calls Try.prog 32 #[ptr p, ov] w fun e w' => e = .returned (.bool true) ∧ ArS w p M L l w' := by
  refine (Set_ok (l := l.map Int.ofNat) R hn (by rw [List.length_map, List.map_map]; exact src) (by rw [List.length_map]; omega) hb hm).mono ?_
  rintro e w' ⟨b, hbb, rfl, h1, _⟩
  obtain rfl : b = true := hbb.2 (permI_ord hp hl)
  refine ⟨rfl, ?_⟩
  have := h1 rfl
  rwa [List.map_map, show (Int.toNat ∘ Int.ofNat) = id from rfl, List.map_id] at this
theorem three16 {n : Nat} (h : n ≤ 16) : 3 ^ n ≤ 43046721 := by
  have h1 : 3 ^ n ≤ 3 ^ 16 := Nat.pow_le_pow_right (by omega) h
  have h2 : (3 : Nat) ^ 16 = 43046721 := by decide
  omega
theorem visF_few {M M1 : Mgr} (h : M.WF) (e : ∀ f, M1.vis f = M.vis f) : (visF M1).length ≤ M.nodes.length := by
  have := Mgr.nodup_length (visF M1) (List.range M.shown.length) (List.nodup_range.sublist List.filter_sublist) (fun f hf => by
    have hv : M1.vis f = true := by simpa using (List.mem_filter.1 hf).2
    rw [e] at hv
    rw [List.mem_range]
    rcases Nat.lt_or_ge f M.shown.length with h1 | h1
    · exact h1
    · unfold Mgr.vis at hv
      rw [List.getD_eq_getElem?_getD, List.getElem?_eq_none h1] at hv
      cases hv)
  rw [List.length_range, h.sh] at this
  exact this
/-- The state behind a change of the order. -/
structure PcJ (w : World) (p k c : Nat) (r : Int) (M0 : Mgr) (l : List Nat) (x : World) (M : Mgr) (L : Lay) : Prop where
  own : Own w p x M L
  ord : M.order = l
  len : l.length = 2 * k
  vis : ∀ f, M.vis f = M0.vis f
  wf0 : M0.WF
  c0 : M0.nodes.length ≤ 9000
  nl : M.nodes.length ≤ c
  val : M.valid r = true
  sem : ∀ a, M.sem r.toNat a = pairF k [] a
section
variable {w : World} {p k c : Nat} {r : Int} {M0 : Mgr} {l l' : List Nat} {x y : World} {M : Mgr} {L : Lay}
theorem PcJ.no (s : PcJ w p k c r M0 l x M L) (h : Kp No x y) : PcJ w p k c r M0 l y M L := ⟨s.own.no h, s.ord, s.len, s.vis, s.wf0, s.c0, s.nl, s.val, s.sem⟩
theorem PcJ.n (s : PcJ w p k c r M0 l x M L) : M.n = 2 * k := by unfold Mgr.n; rw [s.ord]; exact s.len
theorem PcJ.bound (s : PcJ w p k c r M0 l x M L) (hk : k ≤ 8) : (visF M).length * 3 ^ M.n + M.n + 2 ≤ 387420489018 := by
  have h0 := visF_few s.wf0 s.vis
  have h1 : (visF M).length * 3 ^ M.n ≤ 9000 * 43046721 := Nat.mul_le_mul (Nat.le_trans h0 s.c0) (three16 (by rw [s.n]; omega))
  have := s.n
  omega
theorem PcJ.ar (s : PcJ w p k c r M0 l x M L) (hk : k ≤ 8) (hl : l'.length = 2 * k) (h : ArS x p M L l' y) : ∃ M' L', PcJ w p k (c + 387420489018) r M0 l' y M' L' := by
  obtain ⟨M', L', o, e, v, sm, nb⟩ := s.own.ar h
  have b := s.bound hk
  obtain ⟨m, hm, _, hv⟩ := Mgr.valid_nat s.own.rep.wf s.val
  refine ⟨M', L', o, e, hl, fun f => by rw [v, s.vis], s.wf0, s.c0, by have := s.nl; omega, ?_, fun a => ?_⟩
  · have := s.val
    unfold Mgr.valid at this ⊢
    rw [v]; exact this
  · rw [← s.sem, hm, Int.toNat_natCast, sm m hv]
theorem PcJ.tot (s : PcJ w p k c r M0 l x M L) {t : Nat} (ht : IsTot l [pairF k []] t) : M.sizeM r = t := by
  have := size_tot s.own.rep.wf s.val s.sem
  rw [s.ord] at this
  exact this.uniq ht
end
def PcR (w1 : World) (k gk : Nat) (s5 s6 : Value) (x : World) : Prop := ∃ i v, i + gk = k ∧ s6 = .int .i64 (i : Int) ∧ v = s5 ∧ x.ownsRow w1.heap.size 3 1 v (2 * i) ((nearL k i).map natV) ∧ Kp No w1 x

set_option maxRecDepth 1000000 in
set_option maxHeartbeats 8000000 in
theorem ReorderPairs_walk (x : Int) {w : World} :
    Calls Try.prog 6 #[.int .i64 x] w fun e w' => e = .returned (.bool true) ∧ Kp No w w' := by
  obtain ⟨i0, hi0, hz0, hz1, hz2⟩ := info_parts info_int
  have PCK := Lib.hid (fun y => Pick_ok x 8 y (by omega) (by omega))
  obtain ⟨q, hq⟩ : ∃ q, pick x 8 = q := ⟨_, rfl⟩
  have hq7 : q ≤ 7 := by have := pick_lt x (n := 8) (by omega); omega
  rw [hq] at PCK
  clear hq
  go_enter Try.func6, Try.ntmps6
  go_wp2_with fail
  refine (rawake_ok w).mono ?_
  rintro e w0 ⟨rfl, k0⟩
  have K0 := Lib.hid k0
  clear k0
  go_wp2_with fail
  refine (PCK.out w0).mono ?_
  rintro e w0' ⟨rfl, rfl⟩
  clear PCK
  go_wp2_with fail
  obtain ⟨k, hk⟩ : ∃ k, q + 1 = k := ⟨_, rfl⟩
  rw [show ((1 : Int) + (q : Int)) = (k : Int) by omega]
  have hk1 : 1 ≤ k := by omega
  have hk8 : k ≤ 8 := by omega
  clear hk hq7
  have NEW : Hid (Calls Try.prog 12 #[.int .i64 (2 * (k : Int))] w0 fun e w1 => ∃ p L, e = .returned (ptr p) ∧ Own w p w1 (Mgr.new (2 * k)) L ∧ Kp No w w1) := Lib.hid (by
    have := New_own (n := 2 * k) (by omega) K0.out
    rw [show ((2 * k : Nat) : Int) = 2 * (k : Int) by omega] at this
    exact this)
  refine NEW.out.mono ?_
  rintro e w1 ⟨p, L1, rfl, s1, k1⟩
  have PR := Lib.hid (Pairs_ok (k := k) hk8 (PaJ.mk s1 (Qk.new (2 * k))))
  clear s1 k1 NEW
  go_wp2_with fail
  refine PR.out.mono ?_
  rintro e w2 ⟨r, M, L, rfl, pj⟩
  have cost : M.nodes.length ≤ 9000 := Nat.le_trans pj.q.cost (prC_max hk8 (Nat.le_refl _))
  have PJ : Hid (PcJ w p k 9000 r M (List.range (2 * k)) w2 M L) := Lib.hid (by
    obtain ⟨v, sm⟩ := pj.q.at (.head _)
    exact ⟨pj.own, by rw [plain_order pj.q.wf pj.q.pl, pj.q.nn], List.length_range, fun _ => rfl, pj.q.wf, cost, cost, v, sm⟩)
  have J0 : Hid (PcR w2 k k (.slice none 0 0) (.int .i64 0) w2) := Lib.hid ⟨0, _, by omega, rfl, rfl, World.ownsRow_nil _ _ _ _, Kp.refl _ _⟩
  clear pj cost PR
  go_wp2
  go_loopg [5, 6] k (fun gk s5 s6 y => PcR w2 k gk s5 s6 y)
  case atStart => exact J0.out
  case round =>
    clear J0
    obtain ⟨i, v, hi, rfl, e5, own, kp⟩ := hrel
    subst e5
    have HI := Lib.hid hi
    have KP := Lib.hid kp
    have OWN := Lib.hid own
    have hsz := kp.size
    by_cases hlt : i < k
    · have hlti : (i : Int) < k := by omega
      clear hi kp
      go_wp2_with (at_builtin; refine wpList_append_lies _ rfl (.tmp 29) (.tmp 34) _ rfl w2.heap.size 3 i0 _ 1 8 Try.underlying33 hi0 hz0 hz1 hz2 rfl (by omega) v (2 * i) ((nearL k i).map natV) rfl (own.alloc _) ⟨wr.heap.size, 0, none⟩ 2 2 [.int .i64 (i : Int), .int .i64 ((i : Int) + (k : Int))] rfl rfl (World.news_of_block (heap_alloc_new _ _)) (by simp [Value.oneCell']) (by omega) (by unfold maxLen; omega) (by omega) (by simp; omega) (wr.heap.size + 1) (by simp) ?_; intro g cap y2 hown hgrow hat hlt2)
      have JN : Hid (PcR w2 k (k - (i + 1)) (.slice (some ⟨g, 0, none⟩) (2 * i + 2) cap) (.int .i64 ((i + 1 : Nat) : Int)) y2) := Lib.hid (by
        have kg : Kp (fun z => v.ownBlock = some z) wr y2 := grown_no (Kp.alloc _) hgrow
        refine ⟨i + 1, _, by omega, rfl, rfl, ?_, KP.out.trans (A' := fun z => v.ownBlock = some z) (fun z h => .inr (OWN.out.lt z h).1) kg⟩
        unfold nearL
        rw [List.map_append, show 2 * (i + 1) = 2 * i + 2 by omega]
        have e : [i, i + k].map natV = [.int .i64 (i : Int), .int .i64 ((i : Int) + (k : Int))] := by
          show [natV i, natV (i + k)] = _
          unfold natV
          rw [Int.natCast_add]
        rw [e]
        exact hown)
      clear hown hgrow hat hlt2 own
      go_wp2
      go_roundg (k - (i + 1))
      case measure => have := HI.out; omega
      case rel => exact JN.out
    · obtain rfl : i = k := by omega
      have hge : ¬ (i : Int) < i := by omega
      have PJ2 := Lib.hid (PJ.out.no kp)
      obtain ⟨av, cv, rfl, _⟩ := ownsRow_len (row_zero own)
      have FAR := Lib.hid (PJ2.out.tot (pairs_far hk1))
      have SZ := Lib.hid (Size_ok r PJ2.out.own.rep)
      rw [FAR.out] at SZ
      clear hi kp own hsz hlt PJ KP HI FAR
      go_wp2_with fail
      refine SZ.out.mono ?_
      rintro e w3 ⟨rfl, k3⟩
      have PJ3 := Lib.hid (PJ2.out.no k3)
      have SRC3 := Lib.hid ((SrcAt.of_row OWN.out).no k3)
      clear k3 SZ PJ2
      have SET : Hid (Calls Try.prog 32 #[ptr p, .slice av (2 * i) cv] w3 fun e w' => e = .returned (.bool true) ∧ ArS w3 p M L (nearL i i) w') := Lib.hid (Set_nat PJ3.out.own.rep (by rw [PJ3.out.n]; omega) (by rw [nearL_len]; exact SRC3.out) (nearL_perm i) (by rw [nearL_len, PJ3.out.n]) (by have := PJ3.out.bound hk8; unfold big; omega) (by have := PJ3.out.nl; omega))
      go_wp2_with fail
      refine SET.out.mono ?_
      rintro e w4 ⟨rfl, a4⟩
      obtain ⟨M4, L4, pj4⟩ := PJ3.out.ar hk8 (nearL_len i i) a4
      have PJ4 := Lib.hid pj4
      have NEAR := Lib.hid (pj4.tot (pairs_near hk1))
      have SZ := Lib.hid (Size_ok r PJ4.out.own.rep)
      rw [NEAR.out] at SZ
      clear a4 pj4 SET PJ3 SRC3 NEAR
      go_wp2_with fail
      refine SZ.out.mono ?_
      rintro e w5 ⟨rfl, k5⟩
      have PJ5 := Lib.hid (PJ4.out.no k5)
      clear k5 SZ PJ4
      have ID : Hid (Calls Try.prog 22 #[.int .i64 (2 * (i : Int))] w5 (NatsPost w5 (List.range (2 * i)))) := Lib.hid (by
        have := Identity_any (2 * i) (by omega) w5
        rw [show ((2 * i : Nat) : Int) = 2 * (i : Int) by omega] at this
        exact this)
      go_wp2_with fail
      refine ID.out.mono ?_
      rintro e w6 ⟨idv, rfl, irow, k6⟩
      have PJ6 := Lib.hid (PJ5.out.no k6)
      have SET : Hid (Calls Try.prog 32 #[ptr p, idv] w6 fun e w' => e = .returned (.bool true) ∧ ArS w6 p M4 L4 (List.range (2 * i)) w') := Lib.hid (Set_nat PJ6.out.own.rep (by rw [PJ6.out.n]; omega) (SrcAt.of_row irow) (PermL.range _) (by rw [List.length_range, PJ6.out.n]) (by have := PJ6.out.bound hk8; unfold big; omega) (by have := PJ6.out.nl; omega))
      obtain ⟨ai, ci, eid, _⟩ := ownsRow_len (row_zero irow)
      rw [List.length_range] at eid
      subst eid
      clear irow k6 ID PJ5
      go_wp2_with fail
      refine SET.out.mono ?_
      rintro e w7 ⟨rfl, a7⟩
      obtain ⟨M7, L7, pj7⟩ := PJ6.out.ar hk8 List.length_range a7
      have PJ7 := Lib.hid pj7
      have FAR := Lib.hid (pj7.tot (pairs_far hk1))
      have SZ := Lib.hid (Size_ok r PJ7.out.own.rep)
      rw [FAR.out] at SZ
      have KF := Lib.hid PJ7.out.own.kp
      clear a7 pj7 SET PJ6 FAR
      have ee : wrap64 (wrap64 ((2 : Int) ^ (i + 1)) - 2) = ((2 ^ (i + 1) - 2 : Nat) : Int) := by
        have h8 : i = 1 ∨ i = 2 ∨ i = 3 ∨ i = 4 ∨ i = 5 ∨ i = 6 ∨ i = 7 ∨ i = 8 := by omega
        rcases h8 with rfl | rfl | rfl | rfl | rfl | rfl | rfl | rfl <;> decide +kernel
      go_wp2_with fail
      refine SZ.out.mono ?_
      rintro e w8 ⟨rfl, k8⟩
      have KF2 := Lib.hid (KF.out.trans_no k8)
      clear SZ k8 KF
      go_wp2_with fail
      go_ret
      exact ⟨rfl, KF2.out⟩

end Go.Proofs.Ytngbodmooddjbaa
