/-
  Walks: 'Shaped' of the package netverifylaw26; the order of the variables is kept by all operations.
-/
import Derived.Test.YtifompekiockmaaRefV
import Derived.Test.YtifompekiockmaaTop
import Derived.Test.YtifompekiockmaaOrder
import Derived.Test.YtifompekiockmaaAgrees
import Derived.Test.YtifompekiockmaaSide
namespace Go.Proofs.Ytifompekiockmaa
open Go.RowKit

namespace Mgr
theorem put_order (M : Mgr) (v lo hi : Nat) : (M.put v lo hi).1.order = M.order ∧ (M.put v lo hi).1.level = M.level := by
  unfold put
  split
  · exact ⟨rfl, rfl⟩
  · split
    · exact ⟨rfl, rfl⟩
    · split <;> exact ⟨rfl, rfl⟩
theorem build_order : ∀ (k : Nat) (M : Mgr) (F : BF), (build k M F).1.order = M.order ∧ (build k M F).1.level = M.level
  | 0, _, _ => ⟨rfl, rfl⟩
  | k + 1, M, F => by
    unfold build
    simp only
    obtain ⟨a1, a2⟩ := put_order (build k (build k M fun a => F (upd a (M.ord (M.n - (k + 1))) false)).1 fun a => F (upd a (M.ord (M.n - (k + 1))) true)).1 (M.ord (M.n - (k + 1))) (build k M fun a => F (upd a (M.ord (M.n - (k + 1))) false)).2 (build k (build k M fun a => F (upd a (M.ord (M.n - (k + 1))) false)).1 fun a => F (upd a (M.ord (M.n - (k + 1))) true)).2
    obtain ⟨b1, b2⟩ := build_order k (build k M fun a => F (upd a (M.ord (M.n - (k + 1))) false)).1 (fun a => F (upd a (M.ord (M.n - (k + 1))) true))
    obtain ⟨c1, c2⟩ := build_order k M (fun a => F (upd a (M.ord (M.n - (k + 1))) false))
    exact ⟨a1.trans (b1.trans c1), a2.trans (b2.trans c2)⟩
theorem show_order (M : Mgr) (f : Nat) : (M.show f).order = M.order ∧ (M.show f).level = M.level := ⟨rfl, rfl⟩
theorem iteM_order (M : Mgr) (f g h : Int) : (M.iteM f g h).1.order = M.order := by
  unfold iteM; split
  · exact (build_order _ _ _).1
  · rfl
theorem xorM_order (M : Mgr) (f g : Int) : (M.xorM f g).1.order = M.order := by
  unfold xorM; split
  · exact (build_order _ _ _).1.trans (build_order _ _ _).1
  · rfl
theorem varM_order (M : Mgr) (v : Int) : (M.varM v).1.order = M.order := by
  unfold varM; split
  · exact (put_order _ _ _ _).1
  · rfl
theorem restrictM_order (M : Mgr) (f v : Int) (b : Bool) : (M.restrictM f v b).1.order = M.order := by
  unfold restrictM; split
  · exact (build_order _ _ _).1
  · rfl
end Mgr
theorem opM_order (n : Nat) (M : Mgr) (fs : List Int) (s : Stp) : (opM n M fs s).1.order = M.order := by
  have hN : ∀ f, (M.notM f).1.order = M.order := fun f => M.iteM_order f 0 1
  unfold opM
  simp only
  repeat' split
  · exact (Mgr.iteM_order _ _ _ _).trans (hN _)
  · exact (Mgr.iteM_order _ _ _ _).trans (hN _)
  · exact (Mgr.xorM_order _ _ _).trans (hN _)
  · exact (Mgr.iteM_order _ _ _ _).trans (hN _)
  · exact (Mgr.restrictM_order _ _ _ _).trans (hN _)
  · exact hN _
theorem varsM_order (M : Mgr) : ∀ k, (varsM M k).1.order = M.order
  | 0 => rfl
  | k + 1 => (Mgr.varM_order _ _).trans (varsM_order M k)
theorem runM_order (M : Mgr) (n : Nat) (l : List Stp) : (runM M n l).1.order = M.order := by
  have : ∀ (l : List Stp) (S : Mgr × List Int), (l.foldl (stepM n) S).1.order = S.1.order := by
    intro l
    induction l with
    | nil => intro S; rfl
    | cons s l ih => intro S; rw [List.foldl_cons, ih]; exact opM_order n S.1 S.2 s
  exact (this l _).trans (varsM_order M n)

/-- What 'Top' leaves. -/
theorem topM_same {M : Mgr} (h : M.WF) (f : Int) : (topM M f).WF ∧ (topM M f).order = M.order ∧ (topM M f).nodes = M.nodes ∧ (∀ g, (topM M f).nd g = M.nd g) ∧ (∀ g a, (topM M f).sem g a = M.sem g a) ∧ (∀ g, M.valid g = true → (topM M f).valid g = true) ∧ (∀ g, (topM M f).stored g ↔ M.stored g) ∧
    (M.valid f = true → 2 ≤ f.toNat → (topM M f).valid ((M.nd f.toNat).2.1 : Int) = true ∧ (topM M f).valid ((M.nd f.toNat).2.2 : Int) = true) := by
  unfold topM
  split
  · rename_i hx
    obtain ⟨n, rfl, sn, _⟩ := Mgr.valid_nat h hx.1
    rw [Int.toNat_natCast] at hx ⊢
    obtain ⟨_, _, sl, sh, _⟩ := Mgr.node_of h sn hx.2
    have l1 : (M.nd n).2.1 < M.shown.length := by rw [h.sh]; exact M.stored_lt h sl
    have l2 : (M.nd n).2.2 < (M.show (M.nd n).2.1).shown.length := by rw [show (M.show (M.nd n).2.1).shown.length = M.shown.length from by simp [Mgr.show], h.sh]; exact M.stored_lt h sh
    have w1 := Mgr.show_wf h sl
    have w2 := Mgr.show_wf w1 (Mgr.show_stored sh)
    refine ⟨w2, rfl, rfl, fun _ => rfl, fun g a => by rw [Mgr.show_sem, Mgr.show_sem], fun g hg => ?_, fun g => Iff.rfl, fun _ _ => ⟨?_, ?_⟩⟩
    · unfold Mgr.valid at hg ⊢
      simp only [Bool.and_eq_true, decide_eq_true_eq] at hg ⊢
      refine ⟨hg.1, ?_⟩
      rw [Mgr.vis_show _ _ _ l2, Mgr.vis_show _ _ _ l1, hg.2]
      simp
    · unfold Mgr.valid
      rw [Int.toNat_natCast, Mgr.vis_show _ _ _ l2, Mgr.vis_show _ _ _ l1]
      simp
    · unfold Mgr.valid
      rw [Int.toNat_natCast, Mgr.vis_show _ _ _ l2]
      simp
  · rename_i hx
    exact ⟨h, rfl, rfl, fun _ => rfl, fun _ _ => rfl, fun g hg => hg, fun g => Iff.rfl, fun h1 h2 => (hx ⟨h1, h2⟩).elim⟩

/-- A row of naturals reads as integers. -/
theorem nats_src {w : World} {B e : Nat} {v : Value} {l : List Nat} (h : w.ownsRow B e 1 v l.length (l.map natV)) : SrcAt w v 1 (l.map fun x : Nat => (x : Int)).length ((l.map fun x : Nat => (x : Int)).map intV) := by
  have := SrcAt.of_row h
  rw [List.length_map, List.map_map]
  exact this

theorem tabsV_one {M : Mgr} {w : World} {tv : Value} {B f : Nat} (ht : Tb B w tv (tab M.n (M.sem f))) : TabsV M (w.alloc (.cells #[tv] 43)) (.slice (some ⟨w.heap.size, 0, none⟩) 1 1) [tv] [f] := by
  refine ⟨⟨_, _, rfl, rfl, .inr ⟨w.heap.size, 0, rfl, by simp, fun j u hu => ?_⟩⟩, rfl, fun i hi => ?_⟩
  · match j, hu with
    | 0, hu =>
      simp at hu
      subst hu
      have h := heap_alloc_new w (.cells #[tv] 43)
      unfold World.cell?
      simp only [h]
      rfl
    | j + 1, hu => simp at hu
  · have : i = 0 := by simpa using hi
    subst this
    exact (ht.no (Kp.alloc _)).mono (Nat.zero_le _)

set_option maxRecDepth 100000 in
set_option maxHeartbeats 4000000 in
theorem Shaped_ok {p n : Nat} {M : Mgr} {L : Lay} (f : Int) {tv ov : Value} {B B3 : Nat} {w : World} (hn : n ≤ 6) (hM : M.n = n) (R : Rep w p M L) (hf : M.valid f = true) (ht : Tb B w tv (tab n (M.sem f.toNat))) (hot : Off L p tv) (ho : w.ownsRow B3 3 1 ov n (M.order.map natV)) (hoo : Off L p ov) (hc : M.nodes.length ≤ 100000) :
    Calls Try.prog 41 #[ptr p, .int .i64 f, tv, .int .i64 (n : Int), ov] w (Ret p L w (topM M f) (.bool true)) := by
  obtain ⟨wf', or', nn', nd', sem', val', st', ch'⟩ := topM_same R.wf f
  have TOP := Lib.hid (Top_ok f R)
  obtain ⟨fn, rfl, sfn, _⟩ := Mgr.valid_nat R.wf hf
  rw [Int.toNat_natCast] at ht ch'
  have hsd := Sd.start R
  have hM' : (topM M (fn : Int)).n = n := by rw [← hM]; unfold Mgr.n; rw [or']
  have s' : (topM M (fn : Int)).stored fn := (st' fn).2 sfn
  have v' : (topM M (fn : Int)).valid (fn : Int) = true := val' _ hf
  have hc' : (topM M (fn : Int)).nodes.length ≤ 100000 := by rw [nn']; exact hc
  have esem : M.sem fn = (topM M (fn : Int)).sem fn := funext fun a => (sem' fn a).symm
  rw [esem] at ht
  rw [← or'] at ho
  have HT := Lib.hid ht
  have HOT := Lib.hid hot
  have HO := Lib.hid ho
  have HOO := Lib.hid hoo
  have SD := Lib.hid hsd
  have hcases : topV M (fn : Int) = if 2 ≤ fn then .tuple #[.int .i64 (M.nd fn).1, .int .i64 ((M.nd fn).2.1 : Int), .int .i64 ((M.nd fn).2.2 : Int), .bool true] else .tuple #[.int .i64 0, .int .i64 0, .int .i64 0, .bool false] := by
    unfold topV
    by_cases h2 : 2 ≤ fn
    · rw [if_pos ⟨hf, by simpa using h2⟩, if_pos h2]; rfl
    · rw [if_neg (fun x => h2 (by simpa using x.2)), if_neg h2]
  rw [hcases] at TOP
  obtain ⟨g1, c1, hq, _⟩ := ht.form
  subst hq
  obtain ⟨ao, co, hq, _⟩ := ownsRow_len (row_zero ho)
  subst hq
  have nd1 : (topM M (fn : Int)).nd fn = M.nd fn := nd' fn
  have ch2 := fun h => ch' hf h
  rw [← nd1] at TOP ch2
  clear ht hot ho hoo hsd hcases sem' st' nd' val' nn' or' sfn hf hc esem nd1 R hM ch'
  generalize topM M (fn : Int) = N at *
  subst hM'
  -- the rest, behind both 'Top's
  have SUP := Lib.hid (fun (x : World) (L' : Lay) (Rx : Rep x p N L') => Support_ok (fn : Int) Rx (by omega))
  have RSUP := Lib.hid (fun (x : World) (B' : Nat) (htx : Tb B' x (.slice (some ⟨g1, 0, none⟩) (2 ^ N.n) c1) (tab N.n (N.sem fn))) => RSupport_ok hn (upto_sem wf' s') htx)
  rw [supp_ref wf' s'] at RSUP
  have esup : N.supM (fn : Int) = N.supp fn := by unfold Mgr.supM; rw [if_pos v', Int.toNat_natCast]
  rw [esup] at SUP
  have hslen : (N.supp fn).length ≤ 256 := by have := N.supM_len (fn : Int); rw [esup] at this; omega
  have SIZ := Lib.hid (fun (x : World) (L' : Lay) (Rx : Rep x p N L') => Size_ok (fn : Int) Rx)
  have esz : N.sizeM (fn : Int) = N.size fn := by unfold Mgr.sizeM; rw [if_pos v', Int.toNat_natCast]
  rw [esz] at SIZ
  have NOD := Lib.hid (fun (x : World) (B' B4 : Nat) (htx : Tb B' x (.slice (some ⟨g1, 0, none⟩) (2 ^ N.n) c1) (tab N.n (N.sem fn))) (hox : x.ownsRow B4 3 1 (.slice ao N.n co) N.n (N.order.map natV)) =>
    RNodes_ok hn wf' (rs := [fn]) (fun g hg => by rw [List.mem_singleton.1 hg]; exact s') hc' (tabsV_one htx) (by simp) (ownsRow_kp hox (Kp.alloc _) (fun _ _ z => z)))
  rw [walkAll_one] at NOD
  have ol : N.order.length = N.n := rfl
  have RTOP := Lib.hid (fun (x : World) (B' B4 : Nat) (htx : Tb B' x (.slice (some ⟨g1, 0, none⟩) (2 ^ N.n) c1) (tab N.n (N.sem fn))) (hox : x.ownsRow B4 3 1 (.slice ao N.n co) N.n (N.order.map natV)) =>
    RTop_ok hn (upto_sem wf' s') htx (by rw [ol]; exact SrcAt.of_row hox) (by omega) (fun i hi => (wf'.lo_ i (by rw [← ol]; exact hi)).1))
  rw [top_find wf' s'] at RTOP
  have SZL : Hid (N.size fn = (N.nodesOf fn).length) := Lib.hid rfl
  clear esup esz ol
  -- behind the two 'Top's and the comparisons
  have TABX : Hid (∀ (x : World) (L' : Lay), Sd w p L x N L' → Tb B x (.slice (some ⟨g1, 0, none⟩) (2 ^ N.n) c1) (tab N.n (N.sem fn)) ∧ x.ownsRow B3 3 1 (.slice ao N.n co) N.n (N.order.map natV)) := Lib.hid (fun x L' sx => ⟨HT.out.kp sx.kp HOT.out, ownsRow_kp HO.out sx.kp HOO.out⟩)
  by_cases h2 : 2 ≤ fn
  · rw [if_pos h2] at TOP
    rw [if_neg (by omega)] at RTOP
    obtain ⟨cl, ch⟩ := ch2 h2
    obtain ⟨v0, v1, sl, sh, _⟩ := Mgr.node_of wf' s' h2
    have TL := Lib.hid (tab_lo wf' s' h2)
    have TH := Lib.hid (tab_hi wf' s' h2)
    have AGL := Lib.hid (fun (x : World) (L' : Lay) (B' : Nat) (t : Value) (Rx : Rep x p N L') (htx : Tb B' x t (tab N.n (N.sem (N.nd fn).2.1))) => Agrees_ok ((N.nd fn).2.1 : Int) hn Rx cl (fun a => by rw [Int.toNat_natCast]) (upto_sem wf' sl) htx)
    have AGH := Lib.hid (fun (x : World) (L' : Lay) (B' : Nat) (t : Value) (Rx : Rep x p N L') (htx : Tb B' x t (tab N.n (N.sem (N.nd fn).2.2))) => Agrees_ok ((N.nd fn).2.2 : Int) hn Rx ch (fun a => by rw [Int.toNat_natCast]) (upto_sem wf' sh) htx)
    obtain ⟨vn, hvn⟩ := Int.eq_ofNat_of_zero_le v0
    rw [hvn] at TOP RTOP TL TH
    rw [Int.toNat_natCast] at RTOP TL TH
    clear ch2 cl ch wf' s' v' sl sh v0 v1 hvn hc'
    generalize (N.nd fn).2.1 = lo at *
    generalize (N.nd fn).2.2 = hi at *
    go_enter Try.func41, Try.ntmps41
    go_wp2_with fail
    refine TOP.out.mono ?_
    intro e w1 hr
    obtain ⟨rfl, L1, s1⟩ := SD.out.step hr
    have S1 := Lib.hid s1
    obtain ⟨t1, o1⟩ := TABX.out w1 L1 s1
    have RT := Lib.hid (RTOP.out w1 _ _ t1 o1)
    clear hr s1 t1 o1 TOP RTOP
    go_wp2_with fail
    refine RT.out.mono ?_
    intro e w2 hp
    rcases hp with ⟨hx, _⟩ | ⟨v, tl, th, hx, rfl, htl, hth, k2⟩
    · cases hx
    obtain rfl : vn = v := Option.some.inj hx
    rw [TL.out] at htl
    rw [TH.out] at hth
    obtain ⟨gl, cl2, rfl, _⟩ := htl.form
    obtain ⟨gh, ch2, rfl, _⟩ := hth.form
    have S2 := Lib.hid (S1.out.no k2)
    have A1 := Lib.hid (AGL.out w2 L1 _ _ S2.out.rep htl)
    have A2 := Lib.hid (fun (x : World) (kx : Kp No w2 x) => AGH.out x L1 _ _ (S2.out.rep.no kx) (hth.no kx))
    clear hx htl hth k2 RT AGL AGH TL TH
    go_wp2_with fail
    refine A1.out.mono ?_
    rintro e w3 ⟨rfl, k3⟩
    have S3 := Lib.hid (S2.out.no k3)
    have A3 := Lib.hid (A2.out w3 k3)
    clear k3 A2 A1
    go_wp2_with fail
    refine A3.out.mono ?_
    rintro e w4 ⟨rfl, k4⟩
    have S4 := Lib.hid (S3.out.no k4)
    have SU := Lib.hid (SUP.out w4 L1 S4.out.rep)
    clear k4 A3 SUP
    go_wp2_with fail
    refine SU.out.mono ?_
    rintro e w5 ⟨sv, rfl, hsr, k5⟩
    have S5 := Lib.hid (S4.out.no k5)
    have RS := Lib.hid (RSUP.out w5 _ (TABX.out w5 L1 S5.out).1)
    have HSR := Lib.hid hsr
    obtain ⟨a5, c5, rfl⟩ := natsRow_form hsr
    clear hsr k5 RSUP SU
    go_wp2_with fail
    refine RS.out.mono ?_
    rintro e w6 ⟨rv, rfl, hrr, k6⟩
    have S6 := Lib.hid (S5.out.no k6)
    have IE := Lib.hid (Ints_eq (nats_src (ownsRow_kp HSR.out k6 (fun _ _ z => z))) (nats_src hrr) (by simp; omega))
    obtain ⟨a6, c6, rfl⟩ := natsRow_form hrr
    clear hrr k6 RS
    go_wp2_with fail
    refine IE.out.mono ?_
    rintro e w7 ⟨rfl, m7, rfl⟩
    have S7 := Lib.hid (S6.out.no (Kp.drewN (w := w6) m7))
    clear IE
    generalize w6.drewN m7 = y7 at *
    have SZ := Lib.hid (SIZ.out y7 L1 S7.out.rep)
    clear SIZ
    go_wp2_with fail
    refine SZ.out.mono ?_
    rintro e w8 ⟨rfl, k8⟩
    have S8 := Lib.hid (S7.out.no k8)
    have ND := Lib.hid (NOD.out w8 _ _ (TABX.out w8 L1 S8.out).1 (TABX.out w8 L1 S8.out).2)
    clear k8 SZ NOD
    go_wp2_with fail
    refine ND.out.mono ?_
    rintro e w9 ⟨lv, tvs, rfl, hv, k9⟩
    obtain ⟨a9, c9, rfl, hlm⟩ := ownsRow_len (row_zero hv.row)
    have hlv := hv.len
    have hq : ((N.size fn : Int) == (tvs.length : Int)) = true := by rw [SZL.out, hlv]; simp
    have S9 := Lib.hid ((S8.out.no (Kp.alloc _)).no k9)
    clear hv k9 ND hlv hlm
    go_wp2_with fail
    go_ret
    exact S9.out.ret _
  · rw [if_neg h2] at TOP
    rw [if_pos (by omega)] at RTOP
    clear ch2 wf' s' v' hc'
    go_enter Try.func41, Try.ntmps41
    go_wp2_with fail
    refine TOP.out.mono ?_
    intro e w1 hr
    obtain ⟨rfl, L1, s1⟩ := SD.out.step hr
    have S1 := Lib.hid s1
    obtain ⟨t1, o1⟩ := TABX.out w1 L1 s1
    have RT := Lib.hid (RTOP.out w1 _ _ t1 o1)
    clear hr s1 t1 o1 TOP RTOP
    go_wp2_with fail
    refine RT.out.mono ?_
    intro e w2 hp
    rcases hp with ⟨_, rfl, k2⟩ | ⟨v, tl, th, hx, _⟩
    case' inr => cases hx
    have S4 := Lib.hid (S1.out.no k2)
    have SU := Lib.hid (SUP.out w2 L1 S4.out.rep)
    clear k2 RT SUP
    go_wp2_with fail
    refine SU.out.mono ?_
    rintro e w5 ⟨sv, rfl, hsr, k5⟩
    have S5 := Lib.hid (S4.out.no k5)
    have RS := Lib.hid (RSUP.out w5 _ (TABX.out w5 L1 S5.out).1)
    have HSR := Lib.hid hsr
    obtain ⟨a5, c5, rfl⟩ := natsRow_form hsr
    clear hsr k5 RSUP SU
    go_wp2_with fail
    refine RS.out.mono ?_
    rintro e w6 ⟨rv, rfl, hrr, k6⟩
    have S6 := Lib.hid (S5.out.no k6)
    have IE := Lib.hid (Ints_eq (nats_src (ownsRow_kp HSR.out k6 (fun _ _ z => z))) (nats_src hrr) (by simp; omega))
    obtain ⟨a6, c6, rfl⟩ := natsRow_form hrr
    clear hrr k6 RS
    go_wp2_with fail
    refine IE.out.mono ?_
    rintro e w7 ⟨rfl, m7, rfl⟩
    have S7 := Lib.hid (S6.out.no (Kp.drewN (w := w6) m7))
    clear IE
    generalize w6.drewN m7 = y7 at *
    have SZ := Lib.hid (SIZ.out y7 L1 S7.out.rep)
    clear SIZ
    go_wp2_with fail
    refine SZ.out.mono ?_
    rintro e w8 ⟨rfl, k8⟩
    have S8 := Lib.hid (S7.out.no k8)
    have ND := Lib.hid (NOD.out w8 _ _ (TABX.out w8 L1 S8.out).1 (TABX.out w8 L1 S8.out).2)
    clear k8 SZ NOD
    go_wp2_with fail
    refine ND.out.mono ?_
    rintro e w9 ⟨lv, tvs, rfl, hv, k9⟩
    obtain ⟨a9, c9, rfl, hlm⟩ := ownsRow_len (row_zero hv.row)
    have hlv := hv.len
    have hq : ((N.size fn : Int) == (tvs.length : Int)) = true := by rw [SZL.out, hlv]; simp
    have S9 := Lib.hid ((S8.out.no (Kp.alloc _)).no k9)
    clear hv k9 ND hlv hlm
    go_wp2_with fail
    go_ret
    exact S9.out.ret _

end Go.Proofs.Ytifompekiockmaa
