/-
  Walks: 'Set' of the package reorder.
-/
import Derived.Test.YtngbodmooddjbaaGreatKeep
import Derived.Test.YtngbodmooddjbaaGreatSx
import Derived.Test.YtngbodmooddjbaaGreatTab
namespace Go.Proofs.YtngbodmooddjbaaGreat
open Go.RowKit

set_option maxRecDepth 100000 in
set_option maxHeartbeats 1000000 in
theorem SEq_ok {a b : Value} {l1 l2 : List Int} {w : World} (ha : SrcAt w a 1 l1.length (l1.map intV)) (hb : SrcAt w b 1 l2.length (l2.map intV)) (hl : l1.length ≤ 1000000) :
    Calls Tryz.prog 59 #[a, b] w fun e w' => e = .returned (.bool (decide (l1 = l2))) ∧ ∃ m, w' = w.drewN m := by
  have HA := Lib.hid ha
  have HB := Lib.hid hb
  obtain ⟨aa, ca, rfl⟩ := ha.form
  obtain ⟨ab, cb, rfl⟩ := hb.form
  clear ha hb
  have hli : (l1.length : Int) ≤ 1000000 := by omega
  obtain ⟨r, hr⟩ : ∃ r, decide (l1 = l2) = r := ⟨_, rfl⟩
  rw [hr]
  have HR := Lib.hid hr
  clear hr
  by_cases hne : l1.length = l2.length
  case neg =>
    obtain rfl : r = false := by rw [← HR.out]; exact decide_eq_false (fun e => hne (by rw [e]))
    have hn2 : ((l1.length : Int) == (l2.length : Int)) = false := by simp; omega
    have hn3 : ((l1.length : Int) != (l2.length : Int)) = true := by simp; omega
    go_enter Tryz.func59, Tryz.ntmps59
    go_wp2_with fail
    go_ret
    exact ⟨rfl, 0, rfl⟩
  have J0 : Hid (CmpL w l1 l2 l1.length (.int .i64 0) w) := Lib.hid ⟨0, 0, by omega, rfl, rfl, fun i h => by omega⟩
  rw [← hne] at HB
  rw [← hne]
  go_enter Tryz.func59, Tryz.ntmps59
  go_wp2_with fail
  go_loopg [13] l1.length (fun gk s5 wr => CmpL w l1 l2 gk s5 wr)
  case atStart => exact J0.out
  case round =>
    clear J0
    obtain ⟨k, m, hk, rfl, hw, heq⟩ := hrel
    have HW := Lib.hid hw
    by_cases hlt : k < l1.length
    · have hlt2 : k < l2.length := by omega
      obtain ⟨g1, o1, c1, hv1, _, hc1⟩ := (HA.out.no (Kp.drewN m)).cellAt (by omega)
      obtain ⟨g2, o2, c2, hv2, _, hc2⟩ := (HB.out.no (Kp.drewN m)).cellAt (by omega)
      cases hv1
      cases hv2
      have f1 : wr.cell? ⟨g1, o1 + k, none⟩ = some (.int .i64 l1[k]) := by rw [hw]; exact hc1 k _ (by simp [intV, hlt])
      have f2 : wr.cell? ⟨g2, o2 + k, none⟩ = some (.int .i64 l2[k]) := by rw [hw]; exact hc2 k _ (by simp [intV, hlt2])
      have hlti : (k : Int) < l1.length := by omega
      have HK := Lib.hid hk
      by_cases hx : l1[k] = l2[k]
      · have JN : Hid (∀ d, CmpL w l1 l2 (l1.length - (k + 1)) (.int .i64 ((k + 1 : Nat) : Int)) (wr.drewN d)) := Lib.hid (fun d => ⟨k + 1, m + d, by omega, rfl, by rw [HW.out, World.drewN_drewN], fun i hi => by
          by_cases e : i = k
          · subst e; rw [List.getElem?_eq_getElem hlt, List.getElem?_eq_getElem hlt2, hx]
          · exact heq i (by omega)⟩)
        rw [← hx] at f2
        clear hk hw hc1 hc2 heq hx HR
        generalize l1[k] = x at *
        go_wp2_with fail
        go_quiet (fail)
        go_wp2_with fail
        go_roundg (l1.length - (k + 1))
        case measure => have := HK.out; omega
        case rel => exact JN.out _
      · obtain rfl : r = false := by rw [← HR.out]; exact decide_eq_false (fun e => by subst e; exact hx rfl)
        have hx1 : (l1[k] == l2[k]) = false := by simp [hx]
        have hx2 : (l1[k] != l2[k]) = true := by simp [hx]
        clear hk hw hc1 hc2 heq HR
        generalize l1[k] = x at *
        generalize l2[k] = y at *
        clear hx
        go_wp2_with fail
        go_quiet (fail)
        go_wp2_with fail
        go_ret
        exact ⟨rfl, _, by rw [HW.out, World.drewN_drewN]⟩
    · obtain rfl : k = l1.length := by omega
      obtain rfl : r = true := by
        rw [← HR.out]
        refine decide_eq_true (List.ext_getElem? (fun i => ?_))
        by_cases hi : i < l1.length
        · exact heq i hi
        · rw [List.getElem?_eq_none (by omega), List.getElem?_eq_none (by omega)]
      have hge : ¬ (l1.length : Int) < l1.length := by omega
      clear hk hw heq HR
      go_wp2_with fail
      go_ret
      exact ⟨rfl, m, HW.out⟩

end Go.Proofs.YtngbodmooddjbaaGreat

namespace Go.Proofs.YtngbodmooddjbaaGreat
open Go.RowKit

def PermI (n : Nat) (l : List Int) : Prop := l.length = n ∧ l.Nodup ∧ ∀ v, v ∈ l → 0 ≤ v ∧ v < n
def seB (n : Nat) (s : List Int) : List Value := (List.range n).map fun (i : Nat) => Value.bool (decide ((i : Int) ∈ s))
theorem seB_get {n u : Nat} (s : List Int) (h : u < n) : (seB n s)[u]? = some (.bool (decide ((u : Int) ∈ s))) := by simp [seB, h]
theorem seB_set {n u : Nat} (s : List Int) : (seB n s).set u (.bool true) = seB n (s ++ [(u : Int)]) := by
  apply List.ext_getElem
  · simp [seB]
  · intro i h1 h2
    rw [List.getElem_set]
    simp only [seB, List.getElem_map, List.getElem_range]
    by_cases e : u = i
    · subst e; simp
    · rw [if_neg e]
      congr 1
      have : ¬ ((i : Int) = (u : Int)) := by omega
      simp [this]
theorem PermI.permL {n : Nat} {l : List Int} (h : PermI n l) : PermL (l.map Int.toNat) ∧ (l.map Int.toNat).length = n ∧ (l.map Int.toNat).map natV = l.map intV := by
  obtain ⟨h1, h2, h3⟩ := h
  refine ⟨⟨?_, fun v hv => ?_⟩, by simp [h1], ?_⟩
  · rw [List.nodup_iff_pairwise_ne] at h2 ⊢
    rw [List.pairwise_map]
    exact h2.imp_of_mem (fun {a b} ha hb hne e => hne (by have := h3 a ha; have := h3 b hb; omega))
  · obtain ⟨x, hx, rfl⟩ := List.mem_map.1 hv
    have := h3 x hx
    rw [List.length_map, h1]
    omega
  · rw [List.map_map]
    apply List.map_congr_left
    intro x hx
    have := h3 x hx
    show Value.int .i64 ((x.toNat : Nat) : Int) = Value.int .i64 x
    rw [Int.toNat_of_nonneg this.1]
theorem ArS.same {w w' : World} {p : Nat} {M : Mgr} {L : Lay} (R : Rep w p M L) (k : Kp No w w') : ArS w p M L M.order w' :=
  ⟨M, L, R.no k, rfl, fun _ => rfl, fun _ _ _ => rfl, by omega, k.of_no, fun _ h => .inl h⟩

structure SeJ (w : World) (gs n : Nat) (l : List Int) (k : Nat) (y : World) : Prop where
  row : y.ownsRow w.heap.size 4 1 (.slice (some ⟨gs, 0, none⟩) n n) n (seB n (l.take k))
  kp : Kp No w y
  nd : (l.take k).Nodup
  rg : ∀ v, v ∈ l.take k → 0 ≤ v ∧ v < n
def SeR (w : World) (gs n : Nat) (l : List Int) (gk : Nat) (s : Value) (y : World) : Prop := ∃ k, k + gk = l.length ∧ s = .int .i64 (k : Int) ∧ SeJ w gs n l k y
theorem SeJ.step {w : World} {gs n : Nat} {l : List Int} {k u : Nat} {y : World} (s : SeJ w gs n l k y) (hk : k < l.length) (e : l[k] = (u : Int)) (hu : u < n) (hn : ¬ (u : Int) ∈ l.take k) : SeJ w gs n l (k + 1) (y.setCell ⟨gs, u, none⟩ (.bool true)) := by
  have ht : l.take (k + 1) = l.take k ++ [(u : Int)] := by rw [List.take_succ_eq_append_getElem hk, e]
  refine ⟨?_, s.kp.trans (A := No) (A' := fun z => z = gs) (fun z e => .inr (by rw [e]; exact (s.row.lt gs rfl).1)) ((Kp.setCell _ _).mono (fun _ _ e => e)), ?_, fun v hv => ?_⟩
  · rw [ht, ← seB_set]
    exact ownsRow_put s.row u (.bool true)
  · rw [ht, List.nodup_append]
    exact ⟨s.nd, by simp, fun a ha b hb e => hn (by rw [List.mem_singleton] at hb; rw [← hb, ← e]; exact ha)⟩
  · rw [ht] at hv
    rcases List.mem_append.1 hv with h | h
    · exact s.rg v h
    · rw [List.mem_singleton] at h
      omega

def SetPost (w : World) (p : Nat) (M : Mgr) (L : Lay) (l : List Int) (e : Ending) (w' : World) : Prop :=
  ∃ b : Bool, (b = true ↔ PermI M.n l) ∧ e = .returned (.bool b) ∧ (b = true → ArS w p M L (l.map Int.toNat) w') ∧ (b = false → Kp No w w')
theorem SetPost.bad {w w' : World} {p : Nat} {M : Mgr} {L : Lay} {l : List Int} (h : ¬ PermI M.n l) (k : Kp No w w') : SetPost w p M L l (.returned (.bool false)) w' :=
  ⟨false, ⟨fun e => (by cases e), fun e => (h e).elim⟩, rfl, fun e => (by cases e), fun _ => k⟩

set_option maxRecDepth 100000 in
set_option maxHeartbeats 4000000 in
theorem Set_ok {p : Nat} {M : Mgr} {L : Lay} {w : World} {l : List Int} {ov : Value} (R : Rep w p M L) (hn : M.n ≤ 256) (src : SrcAt w ov 1 l.length (l.map intV)) (hll : l.length ≤ 1000000) (hb : (visF M).length * 3 ^ M.n + M.n + 2 ≤ big) (hm : M.nodes.length ≤ 500000000000) :
    Calls Tryz.prog 22 #[ptr p, ov] w (SetPost w p M L l) := by
  have VS := Lib.hid (vars_ok R)
  unfold natV at VS
  have SRC := Lib.hid src
  have RR := Lib.hid R
  obtain ⟨ao, co, rfl⟩ := src.form
  have ARR : Hid (∀ w2 : World, Kp No w w2 → PermI M.n l → Calls Tryz.prog 60 #[ptr p, .slice ao l.length co] w2 (ArPost w2 p M L (l.map Int.toNat))) := Lib.hid (fun w2 k2 hp => by
    obtain ⟨h1, h2, h3⟩ := hp.permL
    refine Arrange_ok (RR.out.no k2) h1 h2 hn ?_ hb hm
    rw [List.length_map, h3]
    exact SRC.out.no k2)
  have OS : Hid (∀ w2 : World, Kp No w w2 → Calls Tryz.prog 23 #[ptr p] w2 (NatsPost w2 M.order)) := Lib.hid (fun w2 k2 => Order_ok (RR.out.no k2) hn)
  have BAD : Hid (∀ w2 : World, Kp No w w2 → ¬ PermI M.n l → SetPost w p M L l (.returned (.bool false)) w2) := Lib.hid (fun w2 k h => SetPost.bad h k)
  have hni : (M.n : Int) ≤ 256 := by omega
  have hli : (l.length : Int) ≤ 1000000 := by omega
  clear R src hb hm
  by_cases hlen : l.length = M.n
  case neg =>
    have hne : ((l.length : Int) == (M.n : Int)) = false := by simp; omega
    have hne2 : ((l.length : Int) != (M.n : Int)) = true := by simp; omega
    have B := Lib.hid (BAD.out w (Kp.refl _ _) (fun h => hlen h.1))
    go_enter Tryz.func22, Tryz.ntmps22
    go_wp2_with fail
    refine VS.out.mono ?_
    rintro e w' ⟨rfl, rfl⟩
    go_wp2_with fail
    go_ret
    exact B.out
  rw [← hlen] at VS hni hn BAD ARR
  have HLEN := Lib.hid hlen
  clear hlen
  obtain ⟨j0, hj0, hy0, hy1, hy2⟩ := info_parts info_bool
  obtain ⟨wm, hrun, r1, r2⟩ := run_make_full (P := Tryz.prog) w w.heap.size 41 4 j0 _ 1 Tryz.underlying41 hj0 hy0 hy1 .i64 .i64 l.length (by rw [hy2]; omega) (by rw [maxLen_val]; omega) (Nat.le_refl _)
  have J0 : Hid (SeR w w.heap.size l.length l l.length (.int .i64 0) wm) := Lib.hid ⟨0, by omega, rfl, by
    refine ⟨?_, (Kp.grown r2).mono (fun k _ e => by cases e), by simp, fun v hv => by simp at hv⟩
    rw [made_false] at r1
    have e : seB l.length (l.take 0) = List.replicate l.length (.bool false) := by
      apply List.ext_getElem <;> simp [seB]
    rw [e]; exact r1⟩
  clear r1 r2
  go_enter Tryz.func22, Tryz.ntmps22
  go_wp2_with fail
  refine VS.out.mono ?_
  rintro e w' ⟨rfl, rfl⟩
  clear VS
  go_wp2_with fail
  generalize w.heap.size = gs at *
  clear hrun
  go_loopg [18] l.length (fun gk s y => SeR w gs l.length l gk s y)
  case atStart => exact J0.out
  case round =>
    clear J0
    obtain ⟨k, hk, rfl, S⟩ := hrel
    have HK := Lib.hid hk
    have SA := Lib.hid S
    by_cases hlt : k < l.length
    · have hlti : (k : Int) < l.length := by omega
      obtain ⟨go, oo, cc, hv, glt, hc⟩ := (SRC.out.no S.kp).cellAt (by omega)
      cases hv
      have d1 := hc k (.int .i64 l[k]) (by simp [intV, hlt])
      obtain ⟨g', c', hv', _, _, _, hcl, hzl⟩ := ownsRow_open (row_zero S.row) (by omega)
      cases hv'
      have B := Lib.hid (BAD.out wr S.kp)
      by_cases h0 : l[k] < 0
      · have BN := Lib.hid (B.out (fun h => by have := (h.2.2 _ (List.getElem_mem hlt)).1; omega))
        clear S hc hcl hzl B hk
        generalize l[k] = v at *
        go_wp2_with fail
        go_ret
        exact BN.out
      · by_cases h1 : (l.length : Int) ≤ l[k]
        · have BN := Lib.hid (B.out (fun h => by have := (h.2.2 _ (List.getElem_mem hlt)).2; omega))
          clear S hc hcl hzl B hk
          generalize l[k] = v at *
          go_wp2_with fail
          go_ret
          exact BN.out
        · obtain ⟨u, hu⟩ := Int.eq_ofNat_of_zero_le (show 0 ≤ l[k] by omega)
          have hul : u < l.length := by omega
          have e1 := hcl u _ (seB_get _ hul)
          have z1 := hzl u
          have gl2 := World.block_lt_of_cell? _ _ e1
          have hui : (u : Int) < l.length := by omega
          have hk2 : k + 1 ≤ 256 := by omega
          rw [hu] at d1
          by_cases h2 : (u : Int) ∈ l.take k
          · rw [decide_eq_true h2] at e1
            have BN := Lib.hid (B.out (fun h => by
              have h3 : (l.take (k + 1)).Nodup := h.2.1.sublist (List.take_sublist _ _)
              rw [List.take_succ_eq_append_getElem hlt, List.nodup_append] at h3
              exact h3.2.2 _ h2 _ (by rw [hu]; exact List.mem_singleton.2 rfl) rfl))
            clear S hc hcl hzl B hk h2 hu h0 h1 SA
            go_wp2_with fail
            go_ret
            exact BN.out
          · rw [decide_eq_false h2] at e1
            have JN : Hid (SeR w gs l.length l (l.length - (k + 1)) (.int .i64 ((k + 1 : Nat) : Int)) (wr.setCell ⟨gs, u, none⟩ (.bool true))) := Lib.hid ⟨k + 1, by omega, rfl, SA.out.step hlt hu hul h2⟩
            clear S hc hcl hzl B hk h2 hu h0 h1 SA
            go_wp2_with fail
            go_roundg (l.length - (k + 1))
            case measure => have := HK.out; omega
            case rel => exact JN.out
    · obtain rfl : k = l.length := by omega
      have PI : Hid (PermI l.length l) := Lib.hid (by
        have h1 := S.nd
        have h2 := S.rg
        rw [List.take_of_length_le (Nat.le_refl _)] at h1 h2
        exact ⟨rfl, h1, h2⟩)
      have KS := Lib.hid S.kp
      have OW := Lib.hid (OS.out wr S.kp)
      have hge : ¬ (l.length : Int) < l.length := by omega
      clear S SA hk OS BAD hlt
      go_wp2_with fail
      refine OW.out.mono ?_
      rintro e w2 ⟨ov2, rfl, orow, k2⟩
      have K2 := Lib.hid (KS.out.trans_no k2)
      have EQ := Lib.hid (SEq_ok (l2 := M.order.map Int.ofNat) (SRC.out.no K2.out) (by
        have h := SrcAt.of_row orow
        rw [List.length_map, List.map_map]
        exact h) hll)
      obtain ⟨ak, ck, rfl, _⟩ := ownsRow_len (row_zero orow)
      clear orow k2 OW
      by_cases hq : l = M.order.map Int.ofNat
      · have FIN : Hid (∀ w3, Kp No w w3 → SetPost w p M L l (.returned (.bool true)) w3) := Lib.hid (fun w3 k3 => ⟨true, ⟨fun _ => by rw [← HLEN.out]; exact PI.out, fun _ => rfl⟩, rfl, fun _ => by
          have e : l.map Int.toNat = M.order := by rw [hq, List.map_map]; exact List.map_id'' (fun _ => rfl) _
          rw [e]; exact ArS.same RR.out k3, fun e => by cases e⟩)
        rw [decide_eq_true hq] at EQ
        clear hq
        go_wp2_with fail
        refine EQ.out.mono ?_
        rintro e w3 ⟨rfl, m3, rfl⟩
        go_wp2_with fail
        go_ret
        exact FIN.out _ (K2.out.trans_no (Kp.drewN _))
      · rw [decide_eq_false hq] at EQ
        have FIN : Hid (∀ w3, ArS w p M L (l.map Int.toNat) w3 → SetPost w p M L l (.returned (.bool true)) w3) := Lib.hid (fun w3 h3 => ⟨true, ⟨fun _ => by rw [← HLEN.out]; exact PI.out, fun _ => rfl⟩, rfl, fun _ => h3, fun e => by cases e⟩)
        clear hq
        go_wp2_with fail
        refine EQ.out.mono ?_
        rintro e w3 ⟨rfl, m3, rfl⟩
        have AC := Lib.hid (ARR.out (w2.drewN m3) (K2.out.trans_no (Kp.drewN _)) PI.out)
        have K3 := Lib.hid (K2.out.trans_no (Kp.drewN m3))
        go_wp2_with fail
        refine AC.out.mono ?_
        intro e w4 h4
        obtain ⟨rfl, h5⟩ := h4
        have h6 : ArS (w2.drewN m3) p M L (l.map Int.toNat) w4 := h5
        have RET := Lib.hid (FIN.out w4 (h6.from K3.out))
        clear h5 h6
        go_wp2_with fail
        go_ret
        exact RET.out

end Go.Proofs.YtngbodmooddjbaaGreat
