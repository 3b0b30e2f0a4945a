/-
  Walks: 'Shaped' of the package netverifylaw26; the order of the variables is kept by all operations.
-/
import Derived.Test.YtngbodmooddjbaaGreatW10
import Derived.Test.YtngbodmooddjbaaGreatRefV
import Derived.Test.YtngbodmooddjbaaGreatOrder
import Derived.Test.YtngbodmooddjbaaGreatFront
import Derived.Deep.RegionHeld3
namespace Go.Proofs.YtngbodmooddjbaaGreat
open Go.RowKit

/-- What 'Top' returns. -/
def topV (M : Mgr) (f : Int) : Value := if M.valid f = true ∧ 2 ≤ f.toNat then .tuple #[.int .i64 (M.nd f.toNat).1, .int .i64 ((M.nd f.toNat).2.1 : Int), .int .i64 ((M.nd f.toNat).2.2 : Int), .bool true] else .tuple #[.int .i64 0, .int .i64 0, .int .i64 0, .bool false]
def topM (M : Mgr) (f : Int) : Mgr := if M.valid f = true ∧ 2 ≤ f.toNat then (M.show (M.nd f.toNat).2.1).show (M.nd f.toNat).2.2 else M

theorem Mgr.show_stored {M : Mgr} {f g : Nat} (h : M.stored g) : (M.show f).stored g := h

structure TpJ (w : World) (p : Nat) (L0 : Lay) (x : World) (M : Mgr) (L : Lay) (b : Nat) (v : Int) (lo hi : Nat) : Prop where
  sd : Sd w p L0 x M L
  bx : x.heap[b]? = some (box3 v lo hi)
  nb : ¬ L.at p b
theorem TpJ.no {w : World} {p : Nat} {L0 : Lay} {x y : World} {M : Mgr} {L : Lay} {b : Nat} {v : Int} {lo hi : Nat} (j : TpJ w p L0 x M L b v lo hi) (k : Kp No x y) : TpJ w p L0 y M L b v lo hi := ⟨j.sd.no k, by rw [k.block _ (heap_lt j.bx) (fun z => z)]; exact j.bx, j.nb⟩
theorem TpJ.step {w : World} {p : Nat} {L0 : Lay} {x y : World} {M M' : Mgr} {L : Lay} {b : Nat} {v : Int} {lo hi : Nat} {u : Value} {e : Ending} (j : TpJ w p L0 x M L b v lo hi) (h : Ret p L x M' u e y) : e = .returned u ∧ ∃ L', TpJ w p L0 y M' L' b v lo hi := by
  obtain ⟨L', he, r, k, f⟩ := h
  refine ⟨he, L', ⟨r, j.sd.kp.trans j.sd.fr k, fun z hz => ?_⟩, by rw [k.block b (heap_lt j.bx) j.nb]; exact j.bx, fun hx => ?_⟩
  · rcases f z hz with h1 | h1
    · exact j.sd.fr z h1
    · right; have := j.sd.kp.size; omega
  · rcases f b hx with h1 | h1
    · exact j.nb h1
    · have := heap_lt j.bx; omega
theorem TpJ.cells {w : World} {p : Nat} {L0 : Lay} {x : World} {M : Mgr} {L : Lay} {b : Nat} {v : Int} {lo hi : Nat} (j : TpJ w p L0 x M L b v lo hi) : x.cell? ⟨b, 0, none⟩ = some (.int .i64 v) ∧ x.cell? ⟨b, 1, none⟩ = some (.int .i64 (lo : Int)) ∧ x.cell? ⟨b, 2, none⟩ = some (.int .i64 (hi : Int)) := by
  refine ⟨?_, ?_, ?_⟩ <;> simp [World.cell?, j.bx]

set_option maxRecDepth 100000 in
set_option maxHeartbeats 1000000 in
theorem Top_ok {p : Nat} {M : Mgr} {L : Lay} (f : Int) {w : World} (R : Rep w p M L) : Calls Tryz.prog 44 #[ptr p, .int .i64 f] w (Ret p L w (topM M f) (topV M f)) := by
  by_cases hf : M.valid f = true
  · obtain ⟨n, rfl, sf, _⟩ := Mgr.valid_nat R.wf hf
    by_cases h2 : 2 ≤ n
    · have e1 : topM M (n : Int) = (M.show (M.nd n).2.1).show (M.nd n).2.2 := if_pos ⟨hf, by simpa using h2⟩
      have e2 : topV M (n : Int) = .tuple #[.int .i64 (M.nd n).1, .int .i64 ((M.nd n).2.1 : Int), .int .i64 ((M.nd n).2.2 : Int), .bool true] := if_pos ⟨hf, by simpa using h2⟩
      rw [e1, e2]
      obtain ⟨F, raw, _⟩ := R.raw
      obtain ⟨bn, cn, hsn, hcn, hcm, hnd⟩ := raw.node_cells R.wf
      have lt := M.stored_lt R.wf sf
      obtain ⟨n0, n1, n2⟩ := hnd n lt
      have bnlt := World.block_lt_of_cell? _ _ n0
      have c2 := raw.c2
      rw [hsn] at c2
      have plt := raw.plt
      unfold natV at n1 n2
      obtain ⟨_, _, sl, sh, _⟩ := Mgr.node_of R.wf sf h2
      have hm := maxLen_val
      have hle2 : M.nodes.length ≤ 9223372036854775807 := by omega
      have b1 : (n : Int) < M.nodes.length := by omega
      have J0 : TpJ w p L (w.alloc (box3 (M.nd n).1 (M.nd n).2.1 (M.nd n).2.2)) M L w.heap.size (M.nd n).1 (M.nd n).2.1 (M.nd n).2.2 :=
        ⟨(Sd.start R).no (Kp.alloc _), heap_alloc_new _ _, fun h => by have := R.lt _ h; omega⟩
      have VAL := Lib.hid (valid_as (n : Int) true R hf)
      have HJ := Lib.hid (J0.no Kp.drew)
      have S0 := Lib.hid HJ.out.cells
      have C1 := Lib.hid (show_ok _ HJ.out.sd.rep sl)
      have C2 : Hid (∀ (x : World) (L' : Lay), Rep x p (M.show (M.nd n).2.1) L' → Calls Tryz.prog 55 #[ptr p, .int .i64 ((M.nd n).2.2 : Int)] x (Ret p L' x ((M.show (M.nd n).2.1).show (M.nd n).2.2) (.int .i64 ((M.nd n).2.2 : Int)))) :=
        Lib.hid (fun x L' Rx => show_ok _ Rx sh)
      clear J0 raw hsn hnd hcn hcm hm e1 e2 hf sf sl sh R
      generalize M.nodes.length = nl at *
      generalize M.nd n = x at *
      go_enter Tryz.func44, Tryz.ntmps44
      go_wp2_with fail
      refine VAL.out.mono ?_
      rintro e w' ⟨rfl, rfl⟩
      go_wp2_with fail
      refine (constant_no _ _ h2).mono ?_
      rintro e w' ⟨rfl, rfl⟩
      go_upto_region 4 with (fail)
      clear VAL c2 n0 n1 n2
      go_region_held3 (fun y => y.cell? ⟨w.heap.size, 0, none⟩ = some (.int .i64 x.1) ∧ y.cell? ⟨w.heap.size, 1, none⟩ = some (.int .i64 (x.2.1 : Int)) ∧ y.cell? ⟨w.heap.size, 2, none⟩ = some (.int .i64 (x.2.2 : Int))) (first | exact S0.out | exact SA.out | exact SB.out)
        (first | (go_at_call 55; (with_reducible refine C1.out.mono ?_); intro e wa ha; obtain ⟨rfl, La, ja⟩ := HJ.out.step ha; have SA := Lib.hid ja.cells; have JA := Lib.hid ja; clear ha ja) | (go_at_call 55; (with_reducible refine (C2.out _ _ JA.out.sd.rep).mono ?_); intro e wb hb; obtain ⟨rfl, Lb, jb⟩ := JA.out.step hb; have SB := Lib.hid jb.cells; have JB := Lib.hid jb; clear hb jb))
      all_goals
        go_wp2_with fail
        refine bodyPost_ret (v := .tuple #[.int .i64 x.1, .int .i64 (x.2.1 : Int), .int .i64 (x.2.2 : Int), .bool true]) (by simp [results, Tryz.results44, go_sem]) rfl ?_
        exact JB.out.sd.ret _
    · have e1 : topM M (n : Int) = M := if_neg (fun x => h2 (by simpa using x.2))
      have e2 : topV M (n : Int) = .tuple #[.int .i64 0, .int .i64 0, .int .i64 0, .bool false] := if_neg (fun x => h2 (by simpa using x.2))
      rw [e1, e2]
      have h2' : n < 2 := by omega
      have VAL := Lib.hid (valid_as (n : Int) true R hf)
      clear e1 e2 hf h2
      go_enter Tryz.func44, Tryz.ntmps44
      go_wp2_with fail
      refine VAL.out.mono ?_
      rintro e w' ⟨rfl, rfl⟩
      go_wp2_with fail
      refine (constant_yes _ _ h2').mono ?_
      rintro e w' ⟨rfl, rfl⟩
      go_wp2_with fail
      refine bodyPost_ret (v := .tuple #[.int .i64 0, .int .i64 0, .int .i64 0, .bool false]) (by simp [results, Tryz.results44, go_sem]) rfl ?_
      exact Ret.same R
  · have e1 : topM M f = M := if_neg (fun x => hf x.1)
    have e2 : topV M f = .tuple #[.int .i64 0, .int .i64 0, .int .i64 0, .bool false] := if_neg (fun x => hf x.1)
    rw [e1, e2]
    have VAL := Lib.hid (valid_as f false R (by simpa using hf))
    clear e1 e2 hf
    go_enter Tryz.func44, Tryz.ntmps44
    go_wp2_with fail
    refine VAL.out.mono ?_
    rintro e w' ⟨rfl, rfl⟩
    go_wp2_with fail
    refine bodyPost_ret (v := .tuple #[.int .i64 0, .int .i64 0, .int .i64 0, .bool false]) (by simp [results, Tryz.results44, go_sem]) rfl ?_
    exact Ret.same R

end Go.Proofs.YtngbodmooddjbaaGreat

namespace Go.Proofs.YtngbodmooddjbaaGreat
open Go.RowKit

/-- What 'Top' leaves. -/
theorem topM_same {M : Mgr} (h : M.WF) (f : Int) : (topM M f).WF ∧ (topM M f).order = M.order ∧ (topM M f).nodes = M.nodes ∧ (∀ g, (topM M f).nd g = M.nd g) ∧ (∀ g a, (topM M f).sem g a = M.sem g a) ∧ (∀ g, M.valid g = true → (topM M f).valid g = true) ∧ (∀ g, (topM M f).stored g ↔ M.stored g) ∧
    (M.valid f = true → 2 ≤ f.toNat → (topM M f).valid ((M.nd f.toNat).2.1 : Int) = true ∧ (topM M f).valid ((M.nd f.toNat).2.2 : Int) = true) := by
  unfold topM
  split
  · rename_i hx
    obtain ⟨n, rfl, sn, _⟩ := Mgr.valid_nat h hx.1
    rw [Int.toNat_natCast] at hx ⊢
    obtain ⟨_, _, sl, sh, _⟩ := Mgr.node_of h sn hx.2
    have l1 : (M.nd n).2.1 < M.shown.length := by rw [h.sh]; exact M.stored_lt h sl
    have l2 : (M.nd n).2.2 < (M.show (M.nd n).2.1).shown.length := by rw [show (M.show (M.nd n).2.1).shown.length = M.shown.length from by simp [Mgr.show], h.sh]; exact M.stored_lt h sh
    have w1 := Mgr.show_wf h sl
    have w2 := Mgr.show_wf w1 (Mgr.show_stored sh)
    refine ⟨w2, rfl, rfl, fun _ => rfl, fun g a => by rw [Mgr.show_sem, Mgr.show_sem], fun g hg => ?_, fun g => Iff.rfl, fun _ _ => ⟨?_, ?_⟩⟩
    · unfold Mgr.valid at hg ⊢
      simp only [Bool.and_eq_true, decide_eq_true_eq] at hg ⊢
      refine ⟨hg.1, ?_⟩
      rw [Mgr.vis_show _ _ _ l2, Mgr.vis_show _ _ _ l1, hg.2]
      simp
    · unfold Mgr.valid
      rw [Int.toNat_natCast, Mgr.vis_show _ _ _ l2, Mgr.vis_show _ _ _ l1]
      simp
    · unfold Mgr.valid
      rw [Int.toNat_natCast, Mgr.vis_show _ _ _ l2]
      simp
  · rename_i hx
    exact ⟨h, rfl, rfl, fun _ => rfl, fun _ _ => rfl, fun g hg => hg, fun g => Iff.rfl, fun h1 h2 => (hx ⟨h1, h2⟩).elim⟩

/-- A row of naturals reads as integers. -/
theorem nats_src {w : World} {B e : Nat} {v : Value} {l : List Nat} (h : w.ownsRow B e 1 v l.length (l.map natV)) : SrcAt w v 1 (l.map fun x : Nat => (x : Int)).length ((l.map fun x : Nat => (x : Int)).map intV) := by
  have := SrcAt.of_row h
  rw [List.length_map, List.map_map]
  exact this

theorem tabsV_one {M : Mgr} {w : World} {tv : Value} {B f : Nat} (ht : Tb B w tv (tab M.n (M.sem f))) : TabsV M (w.alloc (.cells #[tv] 42)) (.slice (some ⟨w.heap.size, 0, none⟩) 1 1) [tv] [f] := by
  refine ⟨⟨_, _, rfl, rfl, .inr ⟨w.heap.size, 0, rfl, by simp, fun j u hu => ?_⟩⟩, rfl, fun i hi => ?_⟩
  · match j, hu with
    | 0, hu =>
      simp at hu
      subst hu
      have h := heap_alloc_new w (.cells #[tv] 42)
      unfold World.cell?
      simp only [h]
      rfl
    | j + 1, hu => simp at hu
  · have : i = 0 := by simpa using hi
    subst this
    exact (ht.no (Kp.alloc _)).mono (Nat.zero_le _)

set_option maxRecDepth 100000 in
set_option maxHeartbeats 4000000 in
theorem Shaped_ok {p n : Nat} {M : Mgr} {L : Lay} (f : Int) {tv ov : Value} {B B3 : Nat} {w : World} (hn : n ≤ 6) (hM : M.n = n) (R : Rep w p M L) (hf : M.valid f = true) (ht : Tb B w tv (tab n (M.sem f.toNat))) (hot : Off L p tv) (ho : w.ownsRow B3 3 1 ov n (M.order.map natV)) (hoo : Off L p ov) (hc : M.nodes.length ≤ 1000000000) :
    Calls Tryz.prog 12 #[ptr p, .int .i64 f, tv, .int .i64 (n : Int), ov] w (Ret p L w (topM M f) (.bool true)) := by
  obtain ⟨wf', or', nn', nd', sem', val', st', ch'⟩ := topM_same R.wf f
  have TOP := Lib.hid (Top_ok f R)
  obtain ⟨fn, rfl, sfn, _⟩ := Mgr.valid_nat R.wf hf
  rw [Int.toNat_natCast] at ht ch'
  have hsd := Sd.start R
  have hM' : (topM M (fn : Int)).n = n := by rw [← hM]; unfold Mgr.n; rw [or']
  have s' : (topM M (fn : Int)).stored fn := (st' fn).2 sfn
  have v' : (topM M (fn : Int)).valid (fn : Int) = true := val' _ hf
  have hc' : (topM M (fn : Int)).nodes.length ≤ 1000000000 := by rw [nn']; exact hc
  have esem : M.sem fn = (topM M (fn : Int)).sem fn := funext fun a => (sem' fn a).symm
  rw [esem] at ht
  rw [← or'] at ho
  have HT := Lib.hid ht
  have HOT := Lib.hid hot
  have HO := Lib.hid ho
  have HOO := Lib.hid hoo
  have SD := Lib.hid hsd
  have hcases : topV M (fn : Int) = if 2 ≤ fn then .tuple #[.int .i64 (M.nd fn).1, .int .i64 ((M.nd fn).2.1 : Int), .int .i64 ((M.nd fn).2.2 : Int), .bool true] else .tuple #[.int .i64 0, .int .i64 0, .int .i64 0, .bool false] := by
    unfold topV
    by_cases h2 : 2 ≤ fn
    · rw [if_pos ⟨hf, by simpa using h2⟩, if_pos h2]; rfl
    · rw [if_neg (fun x => h2 (by simpa using x.2)), if_neg h2]
  rw [hcases] at TOP
  obtain ⟨g1, c1, hq, _⟩ := ht.form
  subst hq
  obtain ⟨ao, co, hq, _⟩ := ownsRow_len (row_zero ho)
  subst hq
  have nd1 : (topM M (fn : Int)).nd fn = M.nd fn := nd' fn
  have ch2 := fun h => ch' hf h
  rw [← nd1] at TOP ch2
  clear ht hot ho hoo hsd hcases sem' st' nd' val' nn' or' sfn hf hc esem nd1 R hM ch'
  generalize topM M (fn : Int) = N at *
  subst hM'
  -- the rest, behind both 'Top's
  have SUP := Lib.hid (fun (x : World) (L' : Lay) (Rx : Rep x p N L') => Support_ok (fn : Int) Rx (by omega))
  have RSUP := Lib.hid (fun (x : World) (B' : Nat) (htx : Tb B' x (.slice (some ⟨g1, 0, none⟩) (2 ^ N.n) c1) (tab N.n (N.sem fn))) => RSupport_ok hn (upto_sem wf' s') htx)
  rw [supp_ref wf' s'] at RSUP
  have esup : N.supM (fn : Int) = N.supp fn := by unfold Mgr.supM; rw [if_pos v', Int.toNat_natCast]
  rw [esup] at SUP
  have hslen : (N.supp fn).length ≤ 256 := by have := N.supM_len (fn : Int); rw [esup] at this; omega
  have SIZ := Lib.hid (fun (x : World) (L' : Lay) (Rx : Rep x p N L') => Size_ok (fn : Int) Rx)
  have esz : N.sizeM (fn : Int) = N.size fn := by unfold Mgr.sizeM; rw [if_pos v', Int.toNat_natCast]
  rw [esz] at SIZ
  have NOD := Lib.hid (fun (x : World) (B' B4 : Nat) (htx : Tb B' x (.slice (some ⟨g1, 0, none⟩) (2 ^ N.n) c1) (tab N.n (N.sem fn))) (hox : x.ownsRow B4 3 1 (.slice ao N.n co) N.n (N.order.map natV)) =>
    RNodes_ok hn wf' (rs := [fn]) (fun g hg => by rw [List.mem_singleton.1 hg]; exact s') hc' (tabsV_one htx) (by simp) (ownsRow_kp hox (Kp.alloc _) (fun _ _ z => z)))
  rw [walkAll_one] at NOD
  have ol : N.order.length = N.n := rfl
  have RTOP := Lib.hid (fun (x : World) (B' B4 : Nat) (htx : Tb B' x (.slice (some ⟨g1, 0, none⟩) (2 ^ N.n) c1) (tab N.n (N.sem fn))) (hox : x.ownsRow B4 3 1 (.slice ao N.n co) N.n (N.order.map natV)) =>
    RTop_ok hn (upto_sem wf' s') htx (by rw [ol]; exact SrcAt.of_row hox) (by omega) (fun i hi => (wf'.lo_ i (by rw [← ol]; exact hi)).1))
  rw [top_find wf' s'] at RTOP
  have SZL : Hid (N.size fn = (N.nodesOf fn).length) := Lib.hid rfl
  clear esup esz ol
  -- behind the two 'Top's and the comparisons
  have TABX : Hid (∀ (x : World) (L' : Lay), Sd w p L x N L' → Tb B x (.slice (some ⟨g1, 0, none⟩) (2 ^ N.n) c1) (tab N.n (N.sem fn)) ∧ x.ownsRow B3 3 1 (.slice ao N.n co) N.n (N.order.map natV)) := Lib.hid (fun x L' sx => ⟨HT.out.kp sx.kp HOT.out, ownsRow_kp HO.out sx.kp HOO.out⟩)
  by_cases h2 : 2 ≤ fn
  · rw [if_pos h2] at TOP
    rw [if_neg (by omega)] at RTOP
    obtain ⟨cl, ch⟩ := ch2 h2
    obtain ⟨v0, v1, sl, sh, _⟩ := Mgr.node_of wf' s' h2
    have TL := Lib.hid (tab_lo wf' s' h2)
    have TH := Lib.hid (tab_hi wf' s' h2)
    have AGL := Lib.hid (fun (x : World) (L' : Lay) (B' : Nat) (t : Value) (Rx : Rep x p N L') (htx : Tb B' x t (tab N.n (N.sem (N.nd fn).2.1))) => Agrees_ok ((N.nd fn).2.1 : Int) hn Rx cl (fun a => by rw [Int.toNat_natCast]) (upto_sem wf' sl) htx)
    have AGH := Lib.hid (fun (x : World) (L' : Lay) (B' : Nat) (t : Value) (Rx : Rep x p N L') (htx : Tb B' x t (tab N.n (N.sem (N.nd fn).2.2))) => Agrees_ok ((N.nd fn).2.2 : Int) hn Rx ch (fun a => by rw [Int.toNat_natCast]) (upto_sem wf' sh) htx)
    obtain ⟨vn, hvn⟩ := Int.eq_ofNat_of_zero_le v0
    rw [hvn] at TOP RTOP TL TH
    rw [Int.toNat_natCast] at RTOP TL TH
    clear ch2 cl ch wf' s' v' sl sh v0 v1 hvn hc'
    generalize (N.nd fn).2.1 = lo at *
    generalize (N.nd fn).2.2 = hi at *
    go_enter Tryz.func12, Tryz.ntmps12
    go_wp2_with fail
    refine TOP.out.mono ?_
    intro e w1 hr
    obtain ⟨rfl, L1, s1⟩ := SD.out.step hr
    have S1 := Lib.hid s1
    obtain ⟨t1, o1⟩ := TABX.out w1 L1 s1
    have RT := Lib.hid (RTOP.out w1 _ _ t1 o1)
    clear hr s1 t1 o1 TOP RTOP
    go_wp2_with fail
    refine RT.out.mono ?_
    intro e w2 hp
    rcases hp with ⟨hx, _⟩ | ⟨v, tl, th, hx, rfl, htl, hth, k2⟩
    · cases hx
    obtain rfl : vn = v := Option.some.inj hx
    rw [TL.out] at htl
    rw [TH.out] at hth
    obtain ⟨gl, cl2, rfl, _⟩ := htl.form
    obtain ⟨gh, ch2, rfl, _⟩ := hth.form
    have S2 := Lib.hid (S1.out.no k2)
    have A1 := Lib.hid (AGL.out w2 L1 _ _ S2.out.rep htl)
    have A2 := Lib.hid (fun (x : World) (kx : Kp No w2 x) => AGH.out x L1 _ _ (S2.out.rep.no kx) (hth.no kx))
    clear hx htl hth k2 RT AGL AGH TL TH
    go_wp2_with fail
    refine A1.out.mono ?_
    rintro e w3 ⟨rfl, k3⟩
    have S3 := Lib.hid (S2.out.no k3)
    have A3 := Lib.hid (A2.out w3 k3)
    clear k3 A2 A1
    go_wp2_with fail
    refine A3.out.mono ?_
    rintro e w4 ⟨rfl, k4⟩
    have S4 := Lib.hid (S3.out.no k4)
    have SU := Lib.hid (SUP.out w4 L1 S4.out.rep)
    clear k4 A3 SUP
    go_wp2_with fail
    refine SU.out.mono ?_
    rintro e w5 ⟨sv, rfl, hsr, k5⟩
    have S5 := Lib.hid (S4.out.no k5)
    have RS := Lib.hid (RSUP.out w5 _ (TABX.out w5 L1 S5.out).1)
    have HSR := Lib.hid hsr
    obtain ⟨a5, c5, rfl⟩ := natsRow_form hsr
    clear hsr k5 RSUP SU
    go_wp2_with fail
    refine RS.out.mono ?_
    rintro e w6 ⟨rv, rfl, hrr, k6⟩
    have S6 := Lib.hid (S5.out.no k6)
    have IE := Lib.hid (Ints_eq (nats_src (ownsRow_kp HSR.out k6 (fun _ _ z => z))) (nats_src hrr) (by simp; omega))
    obtain ⟨a6, c6, rfl⟩ := natsRow_form hrr
    clear hrr k6 RS
    go_wp2_with fail
    refine IE.out.mono ?_
    rintro e w7 ⟨rfl, m7, rfl⟩
    have S7 := Lib.hid (S6.out.no (Kp.drewN (w := w6) m7))
    clear IE
    generalize w6.drewN m7 = y7 at *
    have SZ := Lib.hid (SIZ.out y7 L1 S7.out.rep)
    clear SIZ
    go_wp2_with fail
    refine SZ.out.mono ?_
    rintro e w8 ⟨rfl, k8⟩
    have S8 := Lib.hid (S7.out.no k8)
    have ND := Lib.hid (NOD.out w8 _ _ (TABX.out w8 L1 S8.out).1 (TABX.out w8 L1 S8.out).2)
    clear k8 SZ NOD
    go_wp2_with fail
    refine ND.out.mono ?_
    rintro e w9 ⟨lv, tvs, rfl, hv, k9⟩
    obtain ⟨a9, c9, rfl, hlm⟩ := ownsRow_len (row_zero hv.row)
    have hlv := hv.len
    have hq : ((N.size fn : Int) == (tvs.length : Int)) = true := by rw [SZL.out, hlv]; simp
    have S9 := Lib.hid ((S8.out.no (Kp.alloc _)).no k9)
    clear hv k9 ND hlv hlm
    go_wp2_with fail
    go_ret
    exact S9.out.ret _
  · rw [if_neg h2] at TOP
    rw [if_pos (by omega)] at RTOP
    clear ch2 wf' s' v' hc'
    go_enter Tryz.func12, Tryz.ntmps12
    go_wp2_with fail
    refine TOP.out.mono ?_
    intro e w1 hr
    obtain ⟨rfl, L1, s1⟩ := SD.out.step hr
    have S1 := Lib.hid s1
    obtain ⟨t1, o1⟩ := TABX.out w1 L1 s1
    have RT := Lib.hid (RTOP.out w1 _ _ t1 o1)
    clear hr s1 t1 o1 TOP RTOP
    go_wp2_with fail
    refine RT.out.mono ?_
    intro e w2 hp
    rcases hp with ⟨_, rfl, k2⟩ | ⟨v, tl, th, hx, _⟩
    case' inr => cases hx
    have S4 := Lib.hid (S1.out.no k2)
    have SU := Lib.hid (SUP.out w2 L1 S4.out.rep)
    clear k2 RT SUP
    go_wp2_with fail
    refine SU.out.mono ?_
    rintro e w5 ⟨sv, rfl, hsr, k5⟩
    have S5 := Lib.hid (S4.out.no k5)
    have RS := Lib.hid (RSUP.out w5 _ (TABX.out w5 L1 S5.out).1)
    have HSR := Lib.hid hsr
    obtain ⟨a5, c5, rfl⟩ := natsRow_form hsr
    clear hsr k5 RSUP SU
    go_wp2_with fail
    refine RS.out.mono ?_
    rintro e w6 ⟨rv, rfl, hrr, k6⟩
    have S6 := Lib.hid (S5.out.no k6)
    have IE := Lib.hid (Ints_eq (nats_src (ownsRow_kp HSR.out k6 (fun _ _ z => z))) (nats_src hrr) (by simp; omega))
    obtain ⟨a6, c6, rfl⟩ := natsRow_form hrr
    clear hrr k6 RS
    go_wp2_with fail
    refine IE.out.mono ?_
    rintro e w7 ⟨rfl, m7, rfl⟩
    have S7 := Lib.hid (S6.out.no (Kp.drewN (w := w6) m7))
    clear IE
    generalize w6.drewN m7 = y7 at *
    have SZ := Lib.hid (SIZ.out y7 L1 S7.out.rep)
    clear SIZ
    go_wp2_with fail
    refine SZ.out.mono ?_
    rintro e w8 ⟨rfl, k8⟩
    have S8 := Lib.hid (S7.out.no k8)
    have ND := Lib.hid (NOD.out w8 _ _ (TABX.out w8 L1 S8.out).1 (TABX.out w8 L1 S8.out).2)
    clear k8 SZ NOD
    go_wp2_with fail
    refine ND.out.mono ?_
    rintro e w9 ⟨lv, tvs, rfl, hv, k9⟩
    obtain ⟨a9, c9, rfl, hlm⟩ := ownsRow_len (row_zero hv.row)
    have hlv := hv.len
    have hq : ((N.size fn : Int) == (tvs.length : Int)) = true := by rw [SZL.out, hlv]; simp
    have S9 := Lib.hid ((S8.out.no (Kp.alloc _)).no k9)
    clear hv k9 ND hlv hlm
    go_wp2_with fail
    go_ret
    exact S9.out.ret _

end Go.Proofs.YtngbodmooddjbaaGreat
