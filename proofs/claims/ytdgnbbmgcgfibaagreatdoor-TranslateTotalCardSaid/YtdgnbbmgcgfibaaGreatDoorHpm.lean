/-
  Plain mathematics: prefixes as wildcards and as ranges.
-/
import Derived.Test.YtdgnbbmgcgfibaaGreatDoorQ
import Derived.Test.YtdgnbbmgcgfibaaGreatDoorRep
import Derived.Test.YtdgnbbmgcgfibaaGreatDoorHw6
import Derived.RegionTactic
import Derived.Deep.QuietTactic
import Derived.BigQuiet
import Derived.Deep.RegionHeld3
namespace Go.Proofs.YtdgnbbmgcgfibaaGreatDoor
open Go.RowKit

def depB (M : Mgr) (V : List Nat) (v : Nat) : Bool := V.any fun f => (M.nd f).1 == (v : Int)
def depRow (M : Mgr) (V : List Nat) : List Value := (List.range M.n).map fun v => .bool (depB M V v)
theorem depRow_len (M : Mgr) (V : List Nat) : (depRow M V).length = M.n := by simp [depRow]
theorem depRow_nil (M : Mgr) : depRow M [] = List.replicate M.n (.bool false) := by
  apply List.ext_getElem?
  intro j
  simp only [depRow, List.getElem?_map, List.getElem?_replicate]
  by_cases hj : j < M.n
  · simp [hj, depB]
  · rw [if_neg hj, List.getElem?_eq_none (by simp; omega)]; rfl
theorem depRow_snoc (M : Mgr) (V : List Nat) (f v : Nat) (hv : (M.nd f).1 = (v : Int)) : (depRow M V).set v (.bool true) = depRow M (V ++ [f]) := by
  apply List.ext_getElem?
  intro j
  rw [List.getElem?_set]
  by_cases hj : j < M.n
  · by_cases e : v = j
    · subst e
      simp [depRow, hj, depB, hv]
    · rw [if_neg e]
      have e2 : ((M.nd f).1 == (j : Int)) = false := by simp; omega
      simp [depRow, hj, depB, e2]
  · have h1 : (depRow M V)[j]? = none := List.getElem?_eq_none (by rw [depRow_len]; omega)
    have h2 : (depRow M (V ++ [f]))[j]? = none := List.getElem?_eq_none (by rw [depRow_len]; omega)
    rw [h1, h2]
    split
    · rw [if_neg (by rw [depRow_len]; omega)]
    · rfl

/-- The state while 'Support' walks. -/
structure SupJ (w : World) (p : Nat) (M : Mgr) (L : Lay) (Bp Bd g : Nat) (x : World) (V : List Nat) : Prop where
  rep : Rep x p M L
  kp : Kp No w x
  bp : x.heap[Bp]? = some (.cells #[ptr p] 52 (0, 0))
  bd : x.heap[Bd]? = some (.cells #[.slice (some ⟨g, 0, none⟩) M.n M.n] 72 (0, 0))
  row : x.ownsRow w.heap.size 4 1 (.slice (some ⟨g, 0, none⟩) M.n M.n) M.n (depRow M V)

theorem SupJ.kpo {w : World} {p : Nat} {M : Mgr} {L : Lay} {Bp Bd g bs : Nat} {x y : World} {V : List Nat} (j : SupJ w p M L Bp Bd g x V) (k : Kp (fun k => k = bs) x y) (h1 : Bp ≠ bs) (h2 : Bd ≠ bs) (h3 : g ≠ bs) (h4 : ¬ L.at p bs) (h5 : w.heap.size ≤ bs) : SupJ w p M L Bp Bd g y V :=
  ⟨j.rep.kp k (fun x e => by rw [e]; exact h4), j.kp.trans (A' := fun k => k = bs) (fun x e => .inr (by rw [e]; exact h5)) k, by rw [k.block _ (heap_lt j.bp) h1]; exact j.bp, by rw [k.block _ (heap_lt j.bd) h2]; exact j.bd,
    ownsRow_kp j.row k (fun z hz e => by simp [Value.ownBlock] at hz; omega)⟩

set_option maxRecDepth 100000 in
set_option maxHeartbeats 1000000 in
theorem sup_visit {w : World} {p : Nat} {M : Mgr} {L : Lay} {Bp Bd g bs : Nat} (hBd : Bd ≠ g) (hBp : Bp ≠ g) (hgL : ¬ L.at p g) (hgs : g ≠ bs) (x : World) (V : List Nat) (f : Nat) (S : List Nat) (hJ : SupJ w p M L Bp Bd g x V) (hf : M.stored f) (h2 : 2 ≤ f) (hm : MapAs x bs intV Value.bool (seenF S)) :
    Calls Tryz.prog 104 (#[.int .i64 (f : Int)] ++ #[.pointer (some ⟨Bd, 0, none⟩), .pointer (some ⟨Bp, 0, none⟩)]) x (WPost (SupJ w p M L Bp Bd g) bs (S, V ++ [f])) := by
  obtain ⟨F, raw, _⟩ := hJ.rep.raw
  obtain ⟨bn, cn, hsn, hcn, hcm, hnd⟩ := raw.node_cells hJ.rep.wf
  have lt := M.stored_lt hJ.rep.wf hf
  obtain ⟨n0, _, _⟩ := hnd f lt
  obtain ⟨v0, v1, _⟩ := Mgr.node_of hJ.rep.wf hf h2
  obtain ⟨v, hv⟩ := Int.eq_ofNat_of_zero_le v0
  rw [hv] at n0
  have hvn : v < M.n := by omega
  have c2 := raw.c2
  rw [hsn] at c2
  have e1 : x.cell? ⟨Bd, 0, none⟩ = some (.slice (some ⟨g, 0, none⟩) M.n M.n) := by simp [World.cell?, hJ.bd]
  have e2 : x.cell? ⟨Bp, 0, none⟩ = some (ptr p) := by simp [World.cell?, hJ.bp]
  obtain ⟨g', c', hg', _, hc', _, hcell, hfz⟩ := ownsRow_open hJ.row (by omega)
  cases hg'
  have e3 : x.cell? ⟨g, v, none⟩ = some (.bool (depB M V v)) := hcell v _ (by simp [depRow, hvn])
  have e4 := hfz v
  have hm1 := maxLen_val
  have hle : M.n ≤ 9223372036854775807 := by omega
  have hle2 : M.nodes.length ≤ 9223372036854775807 := by omega
  have b1 : (f : Int) < M.nodes.length := by omega
  have b2 : (v : Int) < M.n := by omega
  have hk : Kp (fun k => k = g) x (x.setCell ⟨g, v, none⟩ (.bool true)) := (Kp.setCell _ _).mono (fun _ _ e => e)
  have hgw : w.heap.size ≤ g := (hJ.row.lt g rfl).1
  have POST : Hid (WPost (SupJ w p M L Bp Bd g) bs (S, V ++ [f]) (.returned (.tuple #[])) ((x.setCell ⟨g, v, none⟩ (.bool true)).drew)) := by
    refine ⟨rfl, ⟨(hJ.rep.kp hk (fun k e => by rw [e]; exact hgL)).no Kp.drew, (hJ.kp.trans (A' := fun k => k = g) (fun k e => .inr (by rw [e]; exact hgw)) hk).trans_no Kp.drew, ?_, ?_, ?_⟩, (hm.kp hk (fun e => hgs e.symm)).kp Kp.drew (fun y => y)⟩
    · show (x.setCell ⟨g, v, none⟩ (.bool true)).heap[Bp]? = _
      rw [hk.block _ (heap_lt hJ.bp) hBp]; exact hJ.bp
    · show (x.setCell ⟨g, v, none⟩ (.bool true)).heap[Bd]? = _
      rw [hk.block _ (heap_lt hJ.bd) hBd]; exact hJ.bd
    · have := ownsRow_put hJ.row v (.bool true)
      rw [depRow_snoc M V f v hv] at this
      exact ownsRow_kp this Kp.drew (fun _ _ y => y)
  clear hJ hm raw hsn hnd hcn hcm hcell hfz hk hm1 hv v0 v1 hf
  show Calls Tryz.prog 104 #[.int .i64 (f : Int), .pointer (some ⟨Bd, 0, none⟩), .pointer (some ⟨Bp, 0, none⟩)] x _
  generalize M.n = nn at *
  generalize M.nodes.length = nl at *
  generalize depB M V v = db at *
  go_enter Tryz.func104, Tryz.ntmps104
  go_region
  go_wp2
  go_end0
  exact POST.out

namespace Mgr
def supp (M : Mgr) (f : Nat) : List Nat := (List.range M.n).filter fun v => depB M (M.nodesOf f) v
def supM (M : Mgr) (f : Int) : List Nat := if M.valid f = true then M.supp f.toNat else []

theorem mem_supp {M : Mgr} {f v : Nat} : v ∈ M.supp f ↔ v < M.n ∧ ∃ g, g ∈ M.nodesOf f ∧ (M.nd g).1 = (v : Int) := by
  unfold supp depB
  rw [List.mem_filter, List.mem_range, List.any_eq_true]
  constructor
  · rintro ⟨h1, g, h2, h3⟩; exact ⟨h1, g, h2, by simpa using h3⟩
  · rintro ⟨h1, g, h2, h3⟩; exact ⟨h1, g, h2, by simpa using h3⟩

theorem indep_reach {M : Mgr} (h : M.WF) (v : Nat) (x : Bool) : ∀ (k f : Nat), M.stored f → M.n - M.depth f < k → (∀ g, M.Reach k f g → (M.nd g).1 ≠ (v : Int)) → ∀ a, M.sem f (upd a v x) = M.sem f a
  | 0, f, _, hk, _, _ => by omega
  | k + 1, f, hf, hk, hr, a => by
    by_cases h2 : f < 2
    · rw [sem_const _ _ _ h2, sem_const _ _ _ h2]
    · obtain ⟨v0, _, sl, sh, _, dl, dh⟩ := node_of h hf (by omega)
      have q1 := depth_le h sl
      have q2 := depth_le h sh
      have hne : (M.nd f).1 ≠ (v : Int) := hr f ⟨by omega, .inl rfl⟩
      rw [sem_node h hf (by omega), sem_node h hf (by omega), upd_other _ _ _ _ (by omega),
        indep_reach h v x k _ sl (by omega) (fun g hg => hr g ⟨by omega, .inr (.inl hg)⟩), indep_reach h v x k _ sh (by omega) (fun g hg => hr g ⟨by omega, .inr (.inr hg)⟩)]

/-- The support is what the function depends on. -/
theorem supp_iff {M : Mgr} (h : M.WF) {f : Nat} (hf : M.stored f) (v : Nat) : v ∈ M.supp f ↔ v < M.n ∧ ∃ a, M.sem f (upd a v false) ≠ M.sem f (upd a v true) := by
  rw [mem_supp]
  obtain ⟨_, hm, hst⟩ := nodesOf_spec h hf
  constructor
  · rintro ⟨hv, g, hg, e⟩
    refine ⟨hv, ?_⟩
    obtain ⟨sg, g2⟩ := hst g hg
    obtain ⟨a, ha⟩ := Reach.cof h hf ((hm g).1 hg)
    have hd : M.depth g = M.lev v := by unfold depth; rw [if_neg (by omega), e, Int.toNat_natCast]
    have hmix : ∀ b x, M.mix (M.depth g) a (upd b v x) = upd (M.mix (M.depth g) a b) v x := fun b x => by
      funext u
      unfold mix upd
      by_cases eu : u = v
      · subst eu; rw [if_pos rfl, if_pos rfl, if_neg (by omega)]
      · rw [if_neg eu, if_neg eu]
    apply Classical.byContradiction
    intro hno
    refine not_indep h (fun f g sf sg e => canon h sf sg e) sg g2 (fun b => ?_)
    rw [e, Int.toNat_natCast, ha, ha, hmix, hmix]
    exact Classical.byContradiction fun hne => hno ⟨_, hne⟩
  · rintro ⟨hv, a, ha⟩
    refine ⟨hv, ?_⟩
    apply Classical.byContradiction
    intro hno
    have hr : ∀ g, M.Reach (M.n + 1) f g → (M.nd g).1 ≠ (v : Int) := fun g hg e => hno ⟨g, (hm g).2 hg, e⟩
    exact ha (by rw [indep_reach h v false (M.n + 1) f hf (by omega) hr, indep_reach h v true (M.n + 1) f hf (by omega) hr])
theorem supM_len (M : Mgr) (f : Int) : (M.supM f).length ≤ M.n := by
  unfold supM supp; split
  · exact Nat.le_trans (List.length_filter_le _ _) (by simp)
  · simp
end Mgr

/-- What 'Support' and its like leave: a new slice of numbers. -/
def NatsPost (w : World) (l : List Nat) (e : Ending) (w' : World) : Prop := ∃ v, e = .returned v ∧ w'.ownsRow w.heap.size 3 1 v l.length (l.map natV) ∧ Kp No w w'

def SupR (w : World) (p : Nat) (M : Mgr) (L : Lay) (Bp Bd g : Nat) (V : List Nat) (gk : Nat) (s6 s26 : Value) (x : World) : Prop :=
  ∃ k v, k + gk = M.n ∧ s26 = .int .i64 (k : Int) ∧ v = s6 ∧ SupJ w p M L Bp Bd g x V ∧ x.ownsRow w.heap.size 3 1 v ((List.range k).filter fun u => depB M V u).length (((List.range k).filter fun u => depB M V u).map natV)

set_option maxRecDepth 100000 in
set_option maxHeartbeats 2000000 in
theorem Support_ok {p : Nat} {M : Mgr} {L : Lay} (f : Int) {w : World} (R : Rep w p M L) (hnb : M.n ≤ 256) :
    Calls Tryz.prog 69 #[ptr p, .int .i64 f] w (NatsPost w (M.supM f)) := by
  by_cases hf : M.valid f = true
  · have e : M.supM f = M.supp f.toNat := if_pos hf
    rw [e]
    obtain ⟨n, rfl, sf, _⟩ := Mgr.valid_nat R.wf hf
    rw [Int.toNat_natCast]
    obtain ⟨i0, hi0, hz0, hz1, hz2⟩ := info_parts info_int
    obtain ⟨j0, hj0, hy0, hy1, hy2⟩ := info_parts info_bool
    have hmm := @run_makeMap Tryz.prog
    have VAL := Lib.hid (fun (x : World) (k : Kp No w x) => valid_as (n : Int) true (R.no k) hf)
    obtain ⟨F, raw, _⟩ := R.raw
    have plt := raw.plt
    have W1 : Kp No w (w.alloc (.cells #[ptr p] 52)) := Kp.alloc _
    obtain ⟨a, c, hso, _⟩ := ownsRow_len raw.order
    have c0 := (raw.no W1).c0
    rw [hso, show M.order.length = M.n from rfl] at c0
    obtain ⟨w1, hmk, r1, r2⟩ := run_make_full (P := Tryz.prog) (w.alloc (.cells #[ptr p] 52)) (w.heap.size) 72 4 j0 _ 1 Tryz.underlying72 hj0 hy0 hy1 .i64 .i64 M.n (by rw [hy2]; omega) (by rw [maxLen_val]; omega) (by simp)
    rw [made_false, ← depRow_nil] at r1
    have hg1 : (w.alloc (.cells #[ptr p] 52)).heap.size = w.heap.size + 1 := by simp
    rw [hg1] at hmk r1
    have K1 : Kp No (w.alloc (.cells #[ptr p] 52)) w1 := (Kp.grown r2).mono (fun k _ e => by cases e)
    have s1 := (r1.lt (w.heap.size + 1) rfl).2
    have cb : (w.alloc (.cells #[ptr p] 52)).heap[w.heap.size]? = some (.cells #[ptr p] 52 (0, 0)) := heap_alloc_new _ _
    have KW1 : Kp No w w1 := W1.trans_no K1
    have plt1 := (raw.no KW1).plt
    have J0 : Hid (SupJ w p M L w.heap.size w1.heap.size (w.heap.size + 1) ((w1.alloc (.cells #[.slice (some ⟨w.heap.size + 1, 0, none⟩) M.n M.n] 72)).alloc (.map #[] 0)) []) := by
      have k2 : Kp No w1 ((w1.alloc (.cells #[.slice (some ⟨w.heap.size + 1, 0, none⟩) M.n M.n] 72)).alloc (.map #[] 0)) := (Kp.alloc _).trans_no (Kp.alloc _)
      refine ⟨R.no (KW1.trans_no k2), KW1.trans_no k2, ?_, ?_, ownsRow_kp r1 k2 (fun _ _ x => x)⟩
      · rw [(K1.trans_no k2).block _ (heap_lt cb) (fun x => x)]; exact cb
      · rw [Below.heap_alloc _ _ _ (by simp)]; exact heap_alloc_new _ _
    have M0 : Hid (MapAs ((w1.alloc (.cells #[.slice (some ⟨w.heap.size + 1, 0, none⟩) M.n M.n] 72)).alloc (.map #[] 0)) (w1.heap.size + 1) intV Value.bool (seenF [])) := by
      have := MapAs.empty (w1.alloc (.cells #[.slice (some ⟨w.heap.size + 1, 0, none⟩) M.n M.n] 72)) intV Value.bool
      rw [← seenF_nil] at this
      have e2 : (w1.alloc (.cells #[.slice (some ⟨w.heap.size + 1, 0, none⟩) M.n M.n] 72)).heap.size = w1.heap.size + 1 := by simp
      rw [e2] at this
      exact this
    have hw0 : w.heap.size < w1.heap.size := by omega
    have hw1 : w.heap.size + 1 < w1.heap.size := s1
    have HBL : Hid (∀ k, w.heap.size ≤ k → ¬ L.at p k) := Lib.hid (fun k hk h => by have := R.lt _ h; omega)
    have vis : Visits M p L (w1.heap.size + 1) 104 #[.pointer (some ⟨w1.heap.size, 0, none⟩), .pointer (some ⟨w.heap.size, 0, none⟩)] 9223372036854775807 (SupJ w p M L w.heap.size w1.heap.size (w.heap.size + 1)) :=
      ⟨fun w f => by kernel_rfl, fun _ _ h => h.rep, fun x y V h k => h.kpo k (by omega) (by omega) (by omega) (HBL.out _ (by omega)) (by omega),
        fun x V f S h hf h2 _ hm => sup_visit (by omega) (by omega) (HBL.out _ (by omega)) (by omega) x V f S h hf h2 hm⟩
    have hsz := M.size_le R.wf sf
    have hle : M.nodes.length ≤ 9223372036854775807 := by
      obtain ⟨a, c, _, h⟩ := ownsRow_len raw.nodes
      have := maxLen_val
      omega
    have CALL := Lib.hid (walk_ok vis (M.n + 1) n _ [] [] (by omega) sf J0.out M0.out (by show M.size n ≤ _; omega))
    have hV : (M.walkS (M.n + 1) ([], []) n).2 = M.nodesOf n := rfl
    have HV := Lib.hid hV
    have HW := Lib.hid KW1
    have cbp : w1.cell? ⟨w.heap.size, 0, none⟩ = some (ptr p) := by
      have h := cb
      rw [← K1.block _ (heap_lt cb) (fun x => x)] at h
      simp [World.cell?, h]
    have SUP : Hid (M.supp n = (List.range M.n).filter fun u => depB M (M.nodesOf n) u) := Lib.hid rfl
    have hMn0 : (0 : Int) ≤ M.n := by omega
    have hMn1 : (M.n : Int) ≤ 256 := by omega
    clear vis J0 M0 r1 r2 raw hso e hsz hle sf hf W1 KW1 K1 s1 hV R hg1
    generalize hnn : M.n = nn at *
    have HNN := Lib.hid hnn
    clear hnn
    go_enter Tryz.func69, Tryz.ntmps69
    go_wp2_with fail
    refine (VAL.out _ (Kp.alloc _)).mono ?_
    rintro e w' ⟨rfl, rfl⟩
    go_wp2_with fail
    refine CALL.out.mono ?_
    rintro e w2 ⟨rfl, j2, _⟩
    rw [HV.out] at j2
    clear CALL HV hmk hmm c0 cbp cb
    have q1 : w2.cell? ⟨w1.heap.size, 0, none⟩ = some (.slice (some ⟨w.heap.size + 1, 0, none⟩) nn nn) := by
      have := j2.bd
      rw [HNN.out] at this
      simp [World.cell?, this]
    have HJ := Lib.hid j2
    clear j2
    go_wp2_with fail
    clear q1
    generalize M.nodesOf n = V at *
    go_loopg [6, 26] nn (fun gk s6 s26 x => SupR w p M L w.heap.size w1.heap.size (w.heap.size + 1) V gk s6 s26 x)
    case atStart => exact ⟨0, _, by rw [HNN.out]; omega, rfl, rfl, HJ.out, World.ownsRow_nil _ _ _ _⟩
    case round =>
      clear HJ
      obtain ⟨k, v, hk, rfl, e6, j, own⟩ := hrel
      subst e6
      rw [HNN.out] at hk
      by_cases hlt : k < nn
      · obtain ⟨g', c', hg', _, _, _, hcell, _⟩ := ownsRow_open j.row (by rw [HNN.out]; omega)
        rw [HNN.out] at hg'
        cases hg'
        have hb : wr.cell? ⟨w.heap.size + 1, k, none⟩ = some (.bool (depB M V k)) := hcell k _ (by simp [depRow, HNN.out, hlt])
        have hlti : (k : Int) < nn := by omega
        have HK := Lib.hid hk
        have HJ := Lib.hid j
        have hln : ((List.range k).filter fun u => depB M V u).length ≤ k := Nat.le_trans (List.length_filter_le _ _) (by simp)
        have hsz := j.kp.size
        have SN : Hid (((List.range (k + 1)).filter fun u => depB M V u) = ((List.range k).filter fun u => depB M V u) ++ if depB M V k then [k] else []) := Lib.hid (by
          rw [List.range_succ, List.filter_append]; congr 1; simp [List.filter_cons])
        clear hk j hcell
        cases hdb : depB M V k with
        | true =>
          rw [hdb] at hb SN
          simp only [if_true] at SN
          clear hdb
          generalize ((List.range k).filter fun u => depB M V u) = lst at *
          go_upto_region 11 with (at_builtin; refine wpList_append_lies _ rfl (.tmp 32) (.tmp 34) _ rfl w.heap.size 3 i0 _ 1 8 Tryz.underlying94 hi0 hz0 hz1 hz2 rfl (by omega) v lst.length (lst.map natV) rfl (own.alloc _) ⟨wr.heap.size, 0, none⟩ 1 1 [.int .i64 (k : Int)] rfl rfl (World.news_of_block (heap_alloc_new _ _)) (by simp [Value.oneCell']) (by omega) (by unfold maxLen; omega) (by omega) (by simp; omega) (wr.heap.size + 1) (by simp) ?_; intro g cap w3 hown hgrow hat hlt2)
          have NX : Hid (SupR w p M L w.heap.size w1.heap.size (w.heap.size + 1) V (nn - (k + 1)) (.slice (some ⟨g, 0, none⟩) (lst.length + 1) cap) (.int .i64 ((k + 1 : Nat) : Int)) w3) := by
            have kg : Kp (fun z => v.ownBlock = some z) wr w3 := grown_no (Kp.alloc _) hgrow
            have zero : ∀ {e s u n x B}, wr.ownsRow B e s u n x → wr.ownsRow 0 e s u n x := fun h => ⟨h.1, by
              rcases h.2 with x | ⟨g, cap, cur, hv, hg, r⟩
              · exact .inl x
              · exact .inr ⟨g, cap, cur, hv, Nat.zero_le _, r⟩⟩
            have nb : ∀ {z : Nat} {cs : Array Value} {t : Nat}, wr.heap[z]? = some (.cells cs t (0, 0)) → t ≠ 3 → ¬ v.ownBlock = some z := fun h1 h2 h3 => by
              obtain ⟨c1, g1⟩ := ownsRow_block own h3
              rw [g1] at h1
              cases h1
              exact h2 rfl
            refine ⟨k + 1, _, by rw [HNN.out]; omega, rfl, rfl, ⟨HJ.out.rep.kp kg (fun z hz hx => ?_), HJ.out.kp.trans (A' := fun z => v.ownBlock = some z) (fun z hz => .inr (own.lt z hz).1) kg, ?_, ?_, ownsRow_kp HJ.out.row kg (fun z hz e => row_ne (zero HJ.out.row) (zero own) (by decide) hz e)⟩, ?_⟩
            · exact HBL.out z (own.lt z hz).1 hx
            · rw [kg.block _ (heap_lt HJ.out.bp) (nb HJ.out.bp (by decide))]; exact HJ.out.bp
            · rw [kg.block _ (heap_lt HJ.out.bd) (nb HJ.out.bd (by decide))]; exact HJ.out.bd
            · rw [SN.out]
              simpa [natV] using hown
          clear hown hgrow hat hlt2 own hb
          go_wp2
          go_roundg (nn - (k + 1))
          case measure => have := HK.out; omega
          case rel => exact NX.out
        | false =>
          rw [hdb] at hb SN
          simp only [Bool.false_eq_true, if_false, List.append_nil] at SN
          have NX : Hid (SupR w p M L w.heap.size w1.heap.size (w.heap.size + 1) V (nn - (k + 1)) v (.int .i64 ((k + 1 : Nat) : Int)) wr) := ⟨k + 1, v, by rw [HNN.out]; omega, rfl, rfl, HJ.out, by rw [SN.out]; exact own⟩
          clear hdb own
          go_wp2
          go_roundg (nn - (k + 1))
          case measure => have := HK.out; omega
          case rel => exact NX.out
      · obtain rfl : k = nn := by omega
        have P : Hid (NatsPost w (M.supp n) (.returned v) wr) := ⟨v, rfl, by rw [SUP.out]; exact own, j.kp⟩
        have hlti : ¬ (k : Int) < k := by omega
        clear own j hk
        go_wp2
        go_ret
        exact P.out
  · have e : M.supM f = [] := if_neg hf
    rw [e]
    have VAL := Lib.hid (fun (x : World) (k : Kp No w x) => valid_as f false (R.no k) (by simpa using hf))
    clear hf e
    go_enter Tryz.func69, Tryz.ntmps69
    go_wp2_with fail
    refine (VAL.out _ (Kp.alloc _)).mono ?_
    rintro e w' ⟨rfl, rfl⟩
    go_wp2_with fail
    go_ret
    exact ⟨_, rfl, World.ownsRow_nil _ _ _ _, Kp.alloc _⟩

end Go.Proofs.YtdgnbbmgcgfibaaGreatDoor

namespace Go.Proofs.YtdgnbbmgcgfibaaGreatDoor
open Go.RowKit

theorem eq_of_bits {a b : Nat} (ha : a < 4294967296) (hb : b < 4294967296) (h : ∀ i, i < 32 → a.testBit i = b.testBit i) : a = b := by
  apply Nat.eq_of_testBit_eq
  intro i
  by_cases hi : i < 32
  · exact h i hi
  · have hp : 4294967296 ≤ 2 ^ i := by
      have : 2 ^ 32 ≤ 2 ^ i := Nat.pow_le_pow_right (by omega) (by omega)
      omega
    rw [Nat.testBit_lt_two_pow (by omega), Nat.testBit_lt_two_pow (by omega)]

/-- 'a &^ m'. -/
def andn (a m : Nat) : Nat := (BitVec.ofNat 32 a &&& ~~~ BitVec.ofNat 32 m).toNat
theorem andn_lt (a m : Nat) : andn a m < 4294967296 := (BitVec.ofNat 32 a &&& ~~~ BitVec.ofNat 32 m).isLt
theorem andn_bit (a m : Nat) {i : Nat} (hi : i < 32) : (andn a m).testBit i = (a.testBit i && !m.testBit i) := by
  unfold andn
  rw [BitVec.testBit_toNat, BitVec.getLsbD_and, BitVec.getLsbD_not, BitVec.getLsbD_ofNat, BitVec.getLsbD_ofNat]
  simp [hi]
theorem bits_andn (a m : Nat) : bits BinOp.andNot IntKind.u32 (a : Int) (m : Int) = (andn a m : Int) := by
  unfold bits andn
  simp only [BitVec.ofInt_natCast]
  rw [IntKind.wrap_u32]
  have := andn_lt a m
  unfold andn at this
  show ((BitVec.ofNat 32 a &&& ~~~ BitVec.ofNat 32 m).toNat : Int) % 4294967296 = _
  omega

/-- Which packets match. -/
theorem wild_enc (dn : Nat → Bool) (p q : Pkt) {k : Nat} (hk : k < 5) (nx : Bool) (ad ma : Nat) : wiF k nx ad ma (fw k) (asg (gL (encF dn p q))) = true ↔ ∀ i, i < fw k → ma.testBit i = false → ((if nx then q else p).f k).testBit i = ad.testBit i := by
  show wildB _ _ _ _ = true ↔ _
  rw [wildB_iff]
  have e : ∀ i, i < fw k → fbit k nx (asg (gL (encF dn p q))) i = ((if nx then q else p).f k).testBit i := fun i hi => by
    unfold fbit
    rw [gL_at _ (fvar_lt hk (by omega) nx)]
    unfold fvar
    rw [enc_bit, Pkt.bit_at _ hk (by omega)]
    congr 1
    omega
  constructor
  · intro h i hi hm; rw [← e i hi]; exact h i hi hm
  · intro h i hi hm; rw [e i hi]; exact h i hi hm

end Go.Proofs.YtdgnbbmgcgfibaaGreatDoor

namespace Go.Proofs.YtdgnbbmgcgfibaaGreatDoor
open Go.RowKit

def clI (n : Int) : Nat := if n < 0 then 0 else if 32 < n then 32 else n.toNat
theorem clI_le (n : Int) : clI n ≤ 32 := by unfold clI; split; omega; split <;> omega
theorem clI_in {n : Int} (h0 : 0 ≤ n) (h1 : n ≤ 32) : (clI n : Int) = n := by unfold clI; rw [if_neg (by omega), if_neg (by omega)]; omega

set_option maxRecDepth 100000 in
theorem clamp_ok (n : Int) (w : World) : Calls Tryz.prog 92 #[.int .i64 n] w fun e w' => e = .returned (.int .i64 (clI n : Int)) ∧ w = w' := by
  by_cases h0 : n < 0
  · have e : (clI n : Int) = 0 := by unfold clI; rw [if_pos h0]; rfl
    rw [e]
    have h1 : ¬ (32 : Int) < n := by omega
    go_enter Tryz.func92, Tryz.ntmps92
    go_wp2_with fail
    go_ret
    exact ⟨rfl, rfl⟩
  · by_cases h1 : (32 : Int) < n
    · have e : (clI n : Int) = 32 := by unfold clI; rw [if_neg h0, if_pos h1]; rfl
      rw [e]
      go_enter Tryz.func92, Tryz.ntmps92
      go_wp2_with fail
      go_ret
      exact ⟨rfl, rfl⟩
    · rw [clI_in (by omega) (by omega)]
      have h2 : (0 : Int) ≤ n := by omega
      by_cases h3 : n = 0
      · subst h3
        go_enter Tryz.func92, Tryz.ntmps92
        go_wp2_with fail
        go_ret
        exact ⟨rfl, rfl⟩
      · have h4 : (0 : Int) < n := by omega
        go_enter Tryz.func92, Tryz.ntmps92
        go_wp2_with fail
        go_ret
        exact ⟨rfl, rfl⟩

/-- The number whose first c bits are 1. -/
def mkN (c : Nat) : Nat := (2 ^ c - 1) * 2 ^ (32 - c)
theorem mkN_val {c : Nat} (hc : c ≤ 32) : mkN c + 2 ^ (32 - c) = 4294967296 := by
  unfold mkN
  have h : (2 : Nat) ^ c * 2 ^ (32 - c) = 4294967296 := by rw [← Nat.pow_add, show c + (32 - c) = 32 by omega]
  have hp : 0 < 2 ^ c := Nat.pow_pos (by omega)
  rw [Nat.sub_mul, h, Nat.one_mul]
  have : 2 ^ (32 - c) ≤ 4294967296 := by rw [← h]; exact Nat.le_mul_of_pos_left _ hp
  omega
theorem mkN_lt {c : Nat} (hc : c ≤ 32) : mkN c < 4294967296 := by
  have := mkN_val hc
  have : 0 < 2 ^ (32 - c) := Nat.pow_pos (by omega)
  omega

set_option maxRecDepth 100000 in
theorem Mask_ok (n : Int) (w : World) : Calls Tryz.prog 57 #[.int .i64 n] w fun e w' => e = .returned (.int .u32 (mkN (clI n) : Int)) ∧ w = w' := by
  have C := Lib.hid (clamp_ok n w)
  have hc := clI_le n
  have hv : ((4294967295 : Int) * 2 ^ (32 - clI n)) % 4294967296 = (mkN (clI n) : Int) := by
    have h1 := mkN_val hc
    have h2 : (0 : Nat) < 2 ^ (32 - clI n) := Nat.pow_pos (by omega)
    have h3 : ((2 : Int) ^ (32 - clI n)) = ((2 ^ (32 - clI n) : Nat) : Int) := by simp
    rw [h3]
    generalize 2 ^ (32 - clI n) = z at *
    have : (4294967295 : Int) * (z : Int) = (mkN (clI n) : Int) + 4294967296 * ((z : Int) - 1) := by omega
    rw [this, Int.add_mul_emod_self_left]
    have := mkN_lt hc
    omega
  have HV := Lib.hid hv
  clear hv
  generalize mkN (clI n) = m at *
  generalize clI n = cl at *
  go_enter Tryz.func57, Tryz.ntmps57
  go_wp2_with fail
  refine C.out.mono ?_
  rintro e w' ⟨rfl, rfl⟩
  go_wp2_with fail
  go_ret
  exact ⟨by rw [HV.out]; rfl, rfl⟩

def pvB (ad : Nat) (ln : Int) : Bool := decide (0 ≤ ln ∧ ln ≤ 32) && ((andn ad (mkN (clI ln)) : Int) == 0)
set_option maxRecDepth 100000 in
theorem Valid_ok (ad : Nat) (ln : Int) (w : World) : Calls Tryz.prog 23 #[.agg #[.int .u32 (ad : Int), .int .i64 ln]] w fun e w' => e = .returned (.bool (pvB ad ln)) ∧ Kp No w w' := by
  by_cases h0 : 0 ≤ ln
  · by_cases h1 : ln ≤ 32
    · have e : pvB ad ln = ((andn ad (mkN (clI ln)) : Int) == 0) := by unfold pvB; rw [decide_eq_true (And.intro h0 h1), Bool.true_and]
      rw [e]
      have MK := Lib.hid (fun (y : World) => (Mask_ok ln y).mono (fun _ _ h => And.intro h.1 h.2.symm))
      have hb := bits_andn ad (mkN (clI ln))
      generalize mkN (clI ln) = m at *
      generalize andn ad m = an at *
      clear e
      have KA := Lib.hid (Kp.alloc (w := w) (.cells #[.int .u32 (ad : Int), .int .i64 ln] 44))
      have c0 : (w.alloc (.cells #[.int .u32 (ad : Int), .int .i64 ln] 44)).cell? ⟨w.heap.size, 0, none⟩ = some (.int .u32 (ad : Int)) := by rw [cell_of_row _ _ _ _ _ _ (heap_alloc_new _ _)]; rfl
      have c1 : (w.alloc (.cells #[.int .u32 (ad : Int), .int .i64 ln] 44)).cell? ⟨w.heap.size, 1, none⟩ = some (.int .i64 ln) := by rw [cell_of_row _ _ _ _ _ _ (heap_alloc_new _ _)]; rfl
      go_enter Tryz.func23, Tryz.ntmps23
      go_upto_region 1 with (fail)
      generalize w.alloc (.cells #[.int .u32 (ad : Int), .int .i64 ln] 44) = wA at *
      go_quiet ((go_at_call 57; exact Calls.quiet_of_same (MK.out _)))
      go_wp2_with fail
      go_ret
      exact ⟨rfl, KA.out.trans_no (Kp.drewN _)⟩
    · have e : pvB ad ln = false := by unfold pvB; rw [decide_eq_false (fun h => h1 h.2), Bool.false_and]
      rw [e]
      have h1' : decide (ln ≤ 32) = false := decide_eq_false h1
      clear e
      have KA := Lib.hid (Kp.alloc (w := w) (.cells #[.int .u32 (ad : Int), .int .i64 ln] 44))
      have c0 : (w.alloc (.cells #[.int .u32 (ad : Int), .int .i64 ln] 44)).cell? ⟨w.heap.size, 0, none⟩ = some (.int .u32 (ad : Int)) := by rw [cell_of_row _ _ _ _ _ _ (heap_alloc_new _ _)]; rfl
      have c1 : (w.alloc (.cells #[.int .u32 (ad : Int), .int .i64 ln] 44)).cell? ⟨w.heap.size, 1, none⟩ = some (.int .i64 ln) := by rw [cell_of_row _ _ _ _ _ _ (heap_alloc_new _ _)]; rfl
      go_enter Tryz.func23, Tryz.ntmps23
      go_upto_region 1 with (fail)
      generalize w.alloc (.cells #[.int .u32 (ad : Int), .int .i64 ln] 44) = wA at *
      go_quiet (fail)
      go_wp2_with fail
      go_ret
      exact ⟨rfl, KA.out.trans_no (Kp.drewN _)⟩
  · have e : pvB ad ln = false := by unfold pvB; rw [decide_eq_false (fun h => h0 h.1), Bool.false_and]
    rw [e]
    have h0' : decide (0 ≤ ln) = false := decide_eq_false h0
    clear e
    have KA := Lib.hid (Kp.alloc (w := w) (.cells #[.int .u32 (ad : Int), .int .i64 ln] 44))
    have c0 : (w.alloc (.cells #[.int .u32 (ad : Int), .int .i64 ln] 44)).cell? ⟨w.heap.size, 0, none⟩ = some (.int .u32 (ad : Int)) := by rw [cell_of_row _ _ _ _ _ _ (heap_alloc_new _ _)]; rfl
    have c1 : (w.alloc (.cells #[.int .u32 (ad : Int), .int .i64 ln] 44)).cell? ⟨w.heap.size, 1, none⟩ = some (.int .i64 ln) := by rw [cell_of_row _ _ _ _ _ _ (heap_alloc_new _ _)]; rfl
    go_enter Tryz.func23, Tryz.ntmps23
    go_upto_region 1 with (fail)
    generalize w.alloc (.cells #[.int .u32 (ad : Int), .int .i64 ln] 44) = wA at *
    go_quiet (fail)
    go_wp2_with fail
    go_ret
    exact ⟨rfl, KA.out.trans_no (Kp.drewN _)⟩

def ctB (ad : Nat) (ln : Int) (a : Nat) : Bool := (((a &&& mkN (clI ln) : Nat) : Int) == (ad : Int))
set_option maxRecDepth 100000 in
theorem Contains_ok (ad : Nat) (ln : Int) (a : Nat) (ha : a < 4294967296) (w : World) : Calls Tryz.prog 125 #[.agg #[.int .u32 (ad : Int), .int .i64 ln], .int .u32 (a : Int)] w fun e w' => e = .returned (.bool (ctB ad ln a)) ∧ Kp No w w' := by
  have MK := Lib.hid (fun (y : World) => (Mask_ok ln y).mono (fun _ _ h => And.intro h.1 h.2.symm))
  have hb : bits BinOp.and IntKind.u32 (a : Int) (mkN (clI ln) : Int) = ((a &&& mkN (clI ln) : Nat) : Int) := (bits_nat .u32 32 (by decide) (fun n a b => by rw [IntKind.wrap_u32]; omega) a _ ha (mkN_lt (clI_le ln))).1
  unfold ctB
  generalize mkN (clI ln) = m at *
  generalize a &&& m = am at *
  have KA := Lib.hid (Kp.alloc (w := w) (.cells #[.int .u32 (ad : Int), .int .i64 ln] 44))
  have c0 : (w.alloc (.cells #[.int .u32 (ad : Int), .int .i64 ln] 44)).cell? ⟨w.heap.size, 0, none⟩ = some (.int .u32 (ad : Int)) := by rw [cell_of_row _ _ _ _ _ _ (heap_alloc_new _ _)]; rfl
  have c1 : (w.alloc (.cells #[.int .u32 (ad : Int), .int .i64 ln] 44)).cell? ⟨w.heap.size, 1, none⟩ = some (.int .i64 ln) := by rw [cell_of_row _ _ _ _ _ _ (heap_alloc_new _ _)]; rfl
  go_enter Tryz.func125, Tryz.ntmps125
  go_upto_region 1 with (fail)
  generalize w.alloc (.cells #[.int .u32 (ad : Int), .int .i64 ln] 44) = wA at *
  go_quiet ((go_at_call 57; exact Calls.quiet_of_same (MK.out _)))
  go_wp2_with fail
  go_ret
  exact ⟨rfl, KA.out.trans_no (Kp.drewN _)⟩

/-- '^m'. -/
def ntN (m : Nat) : Nat := (BitVec.allOnes 32 ^^^ BitVec.ofNat 32 m).toNat
theorem ntN_lt (m : Nat) : ntN m < 4294967296 := (BitVec.allOnes 32 ^^^ BitVec.ofNat 32 m).isLt
theorem bits_not (m : Nat) : bits BinOp.xor IntKind.u32 IntKind.u32.max (m : Int) = (ntN m : Int) := by
  have hm : IntKind.u32.max = ((4294967295 : Nat) : Int) := rfl
  rw [hm]
  unfold bits ntN
  simp only [BitVec.ofInt_natCast]
  rw [IntKind.wrap_u32]
  have := ntN_lt m
  unfold ntN at this
  have e : BitVec.ofNat 32 4294967295 = BitVec.allOnes 32 := by decide
  show ((BitVec.ofNat 32 4294967295 ^^^ BitVec.ofNat 32 m).toNat : Int) % 4294967296 = _
  rw [e]
  omega
/-! ### 'Prefix' of the package header -/
set_option maxRecDepth 100000 in
set_option maxHeartbeats 2000000 in
theorem Prefix_ok {p c : Nat} {M : Mgr} {L : Lay} {B : List (Int × Bfn)} (k : Nat) (hk : k < 2) (nx : Bool) (ad : Nat) (ln : Int) (had : ad < 4294967296) (hv : pvB ad ln = true) {w : World} (R : Rep w p M L) (q : Qk 220 c M B) (g : Gl w) (ho : ¬ L.at p 0) (hc : c ≤ 500000000000) :
    Calls Tryz.prog 33 #[ptr p, .int .i64 (k : Int), .bool nx, .agg #[.int .u32 (ad : Int), .int .i64 ln]] w (OpQ p 220 (c + 10000000) L w (wiF k nx ad (ntN (mkN (clI ln))) 32) B) := by
  have MK := Lib.hid (fun (y : World) => Mask_ok ln y)
  have VD := Lib.hid (fun (y : World) => Valid_ok ad ln y)
  rw [hv] at VD
  have hb := bits_not (mkN (clI ln))
  have hnl := ntN_lt (mkN (clI ln))
  have KA := Lib.hid (Kp.alloc (w := w) (.cells #[.int .u32 (ad : Int), .int .i64 ln] 44))
  have BX : Hid ((w.alloc (.cells #[.int .u32 (ad : Int), .int .i64 ln] 44)).heap[w.heap.size]? = some (.cells #[.int .u32 (ad : Int), .int .i64 ln] 44 (0, 0))) := Lib.hid (heap_alloc_new _ _)
  have RR := Lib.hid R
  have GG := Lib.hid g
  have QQ := Lib.hid q
  have OO := Lib.hid ho
  have CK : Hid (∀ y, Kp No (w.alloc (.cells #[.int .u32 (ad : Int), .int .i64 ln] 44)) y → y.cell? ⟨w.heap.size, 0, none⟩ = some (.int .u32 (ad : Int)) ∧ y.cell? ⟨w.heap.size, 1, none⟩ = some (.int .i64 ln)) := Lib.hid (fun y k => by
    have bx := BX.out
    rw [← k.block _ (heap_lt bx) (fun x => x)] at bx
    exact ⟨by rw [cell_of_row _ _ _ _ _ _ bx]; rfl, by rw [cell_of_row _ _ _ _ _ _ bx]; rfl⟩)
  generalize mkN (clI ln) = m at *
  generalize ntN m = nm at *
  clear R g q ho hv
  go_enter Tryz.func33, Tryz.ntmps33
  go_wp2_with fail
  refine (VD.out _).mono ?_
  rintro e w1 ⟨rfl, k1⟩
  have K1 := Lib.hid k1
  have S0 := Lib.hid (CK.out _ (k1.trans_no Kp.drew))
  have WL : Hid (∀ (y : World), Kp No w y → Calls Tryz.prog 68 #[ptr p, .int .i64 (k : Int), .bool nx, .agg #[.int .u32 (ad : Int), .int .u32 (bits BinOp.xor IntKind.u32 (if IntKind.u32.signed = true then -1 else IntKind.u32.max) (m : Int))]] y (OpQ p 220 (c + 10000000) L y (wiF k nx ad nm 32) B)) := Lib.hid (fun (y : World) (ky : Kp No w y) => by rw [show (if IntKind.u32.signed = true then (-1 : Int) else IntKind.u32.max) = IntKind.u32.max from rfl, hb]; exact Wild_ok k hk nx ad nm had hnl (RR.out.no ky) QQ.out (GG.out.no ky) OO.out hc)
  have WLD := Lib.hid (WL.out _ ((KA.out.trans_no k1).trans_no (Kp.drew (w := w1))))
  clear hb
  clear k1
  have KD := Lib.hid ((KA.out.trans_no K1.out).trans_no (Kp.drew (w := w1)))
  have BL : Hid (∀ (y z : World), Kp (L.at p) y z → (y.cell? ⟨w.heap.size, 0, none⟩ = some (.int .u32 (ad : Int)) ∧ y.cell? ⟨w.heap.size, 1, none⟩ = some (.int .i64 ln)) → z.cell? ⟨w.heap.size, 0, none⟩ = some (.int .u32 (ad : Int)) ∧ z.cell? ⟨w.heap.size, 1, none⟩ = some (.int .i64 ln)) := Lib.hid (fun y z k h => by
    have hn : ¬ L.at p w.heap.size := fun h => by have := RR.out.lt _ h; omega
    have hlt : w.heap.size < y.heap.size := World.block_lt_of_cell? _ _ h.1
    exact ⟨by rw [k.cell hlt hn]; exact h.1, by rw [k.cell hlt hn]; exact h.2⟩)
  go_upto_region 3 with (fail)
  go_region_held3 (fun y => y.cell? ⟨w.heap.size, 0, none⟩ = some (.int .u32 (ad : Int)) ∧ y.cell? ⟨w.heap.size, 1, none⟩ = some (.int .i64 ln)) (first | exact S0.out | exact SB.out)
    (first | (go_at_call 57; (with_reducible refine (MK.out _).mono ?_); rintro e wm ⟨rfl, rfl⟩) | (go_at_call 68; (with_reducible refine WLD.out.mono ?_); intro e wb hw; obtain ⟨r, M', ⟨L', rfl, rr, kk, ff⟩, qk, h0⟩ := hw; have SB := Lib.hid (BL.out _ _ kk S0.out); have FIN : Hid (OpQ p 220 (c + 10000000) L w (wiF k nx ad nm 32) B (.returned (.int .i64 r)) wb) := Lib.hid (OpQ.before KD.out ⟨r, M', ⟨L', rfl, rr, kk, ff⟩, qk, h0⟩); clear rr kk ff qk))
  all_goals
    go_wp2_with fail
    go_ret
    exact FIN.out

end Go.Proofs.YtdgnbbmgcgfibaaGreatDoor

namespace Go.Proofs.YtdgnbbmgcgfibaaGreatDoor
open Go.RowKit

theorem bval_testbit (g : Nat → Bool) : ∀ k i, i < k → (bval g k).testBit i = g i
  | 0, _, h => by omega
  | k + 1, i, h => by
    have hb := bval_lt g k
    by_cases e : i = k
    · subst e
      simp only [bval]
      cases hg : g i
      · simp only [Bool.false_eq_true, if_false, Nat.add_zero]; exact Nat.testBit_lt_two_pow hb
      · simp only [if_true]
        rw [Nat.add_comm, Nat.testBit_two_pow_add_eq, Nat.testBit_lt_two_pow hb]; rfl
    · have ih := bval_testbit g k i (by omega)
      simp only [bval]
      cases hg : g k
      · simp only [Bool.false_eq_true, if_false, Nat.add_zero]; exact ih
      · simp only [if_true]
        rw [Nat.add_comm, Nat.testBit_two_pow_add_gt (by omega), ih]

end Go.Proofs.YtdgnbbmgcgfibaaGreatDoor
