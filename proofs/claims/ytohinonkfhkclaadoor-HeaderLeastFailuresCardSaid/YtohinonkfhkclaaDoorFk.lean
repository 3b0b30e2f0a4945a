/-
  Walks: 'awake' of the package netverifylaw33; 'Sets' refuses.
-/
import Derived.Test.YtohinonkfhkclaaDoorHw6
import Derived.Test.YtohinonkfhkclaaDoorSup
import Derived.Test.YtohinonkfhkclaaDoorFs
import Derived.Deep.CutBlock
namespace Go.Proofs.YtohinonkfhkclaaDoor
open Go.RowKit

theorem bit_u16 {x s : Nat} (hx : x < 65536) : (bits BinOp.and IntKind.u16 ((x : Int) / 2 ^ s) 1 == 1) = x.testBit s :=
  bit_of (j := 16) (by decide) (by omega) (fun n a b => by rw [IntKind.wrap_u16]; omega) hx

/-- The links of a mask. -/
def dwL (x : Nat) : List Nat := dnL (fun i => x.testBit i) 12
def DwR (w : World) (x : Nat) (gk : Nat) (s3 s4 : Value) (wr : World) : Prop := ∃ k v, k + gk = 12 ∧ s4 = .int .i64 (k : Int) ∧ v = s3 ∧ wr.ownsRow w.heap.size 3 1 v (dnL (fun i => x.testBit i) k).length ((dnL (fun i => x.testBit i) k).map natV) ∧ Kp No w wr

set_option maxRecDepth 100000 in
set_option maxHeartbeats 2000000 in
theorem down_ok (x : Nat) (hx : x < 65536) (w : World) : Calls Tryd.prog 12 #[.int .u16 (x : Int)] w (NatsPost w (dwL x)) := by
  obtain ⟨i0, hi0, hz0, hz1, hz2⟩ := info_parts info_int
  go_enter Tryd.func12, Tryd.ntmps12
  go_wp2_with fail
  have J0 : Hid (DwR w x 12 (.slice none 0 0) (.int .i64 0) w) := Lib.hid ⟨0, _, by omega, rfl, rfl, World.ownsRow_nil _ _ _ _, Kp.refl _ _⟩
  go_loopg [3, 4] 12 (fun gk s3 s4 wr => DwR w x gk s3 s4 wr)
  case atStart => exact J0.out
  case round =>
    clear J0
    obtain ⟨k, v, hk, rfl, e5, row, kp⟩ := hrel
    subst e5
    by_cases hlt : k < 12
    · have hlti : (k : Int) < 12 := by omega
      have hk0 : (0 : Int) ≤ (k : Int) := by omega
      have HK := Lib.hid hk
      have KP := Lib.hid kp
      have ROW := Lib.hid row
      have hsz := kp.size
      have hln := dnL_len (fun i => x.testBit i) k
      have SN := Lib.hid (dnL_succ (fun i => x.testBit i) k)
      have hb := bit_u16 (s := k) hx
      have hx0 : (0 : Int) ≤ (x : Int) := by omega
      cases hbit : x.testBit k
      · rw [hbit] at hb
        have JN : Hid (DwR w x (12 - (k + 1)) v (.int .i64 ((k + 1 : Nat) : Int)) wr) := Lib.hid ⟨k + 1, _, by omega, rfl, rfl, by rw [SN.out, hbit, if_neg (by simp), List.append_nil]; exact row, kp⟩
        clear hk kp row hbit SN
        go_wp2_with fail
        go_roundg (12 - (k + 1))
        case measure => have := HK.out; omega
        case rel => exact JN.out
      · rw [hbit] at hb SN
        rw [if_pos rfl] at SN
        clear hk kp hbit
        generalize dnL (fun i => x.testBit i) k = lst at *
        go_upto_region 4 with (at_builtin; refine wpList_append_lies _ rfl (.tmp 14) (.tmp 16) _ rfl w.heap.size 3 i0 _ 1 8 Tryd.underlying28 hi0 hz0 hz1 hz2 rfl (by omega) v lst.length (lst.map natV) rfl (row.alloc _) ⟨wr.heap.size, 0, none⟩ 1 1 [.int .i64 (k : Int)] rfl rfl (World.news_of_block (heap_alloc_new _ _)) (by simp [Value.oneCell']) (by omega) (by unfold maxLen; omega) (by omega) (by simp; omega) (wr.heap.size + 1) (by simp) ?_; intro g5 cap5 w3 hown hgrow hat hlt2)
        have JN : Hid (DwR w x (12 - (k + 1)) (.slice (some ⟨g5, 0, none⟩) (lst.length + 1) cap5) (.int .i64 ((k + 1 : Nat) : Int)) w3) := Lib.hid (by
          have kg : Kp (fun z => v.ownBlock = some z) wr w3 := grown_no (Kp.alloc _) hgrow
          refine ⟨k + 1, _, by omega, rfl, rfl, ?_, KP.out.trans (A' := fun z => v.ownBlock = some z) (fun z hz => .inr (ROW.out.lt z hz).1) kg⟩
          rw [SN.out, List.length_append, List.map_append]
          exact hown)
        clear hown hgrow hat hlt2 row
        go_wp2_with fail
        go_roundg (12 - (k + 1))
        case measure => have := HK.out; omega
        case rel => exact JN.out
    · obtain rfl : k = 12 := by omega
      have FIN : Hid (NatsPost w (dwL x) (.returned v) wr) := Lib.hid ⟨v, rfl, row, kp⟩
      clear kp row hk hlt
      go_wp2_with fail
      go_ret
      exact FIN.out

/-- Between two bounds. -/
def clamp3 (x lo hi : Int) : Int := min (max x lo) hi
set_option maxRecDepth 100000 in
theorem clamp3_ok (x lo hi : Int) (w : World) : Calls Tryd.prog 15 #[.int .i64 x, .int .i64 lo, .int .i64 hi] w fun e w' => e = .returned (.int .i64 (clamp3 x lo hi)) ∧ w = w' := by
  by_cases h0 : x < lo
  · have h0' : lo > x := h0
    have e0 : max x lo = lo := by omega
    by_cases h1 : hi < lo
    · have e : clamp3 x lo hi = hi := by unfold clamp3; omega
      rw [e]
      go_enter Tryd.func15, Tryd.ntmps15
      go_wp2_with fail
      go_ret
      exact ⟨rfl, rfl⟩
    · have e : clamp3 x lo hi = lo := by unfold clamp3; omega
      rw [e]
      have h1' : lo ≤ hi := by omega
      go_enter Tryd.func15, Tryd.ntmps15
      go_wp2_with fail
      go_ret
      exact ⟨rfl, rfl⟩
  · have e0 : max x lo = x := by omega
    by_cases h1 : hi < x
    · have e : clamp3 x lo hi = hi := by unfold clamp3; omega
      rw [e]
      go_enter Tryd.func15, Tryd.ntmps15
      go_wp2_with fail
      go_ret
      exact ⟨rfl, rfl⟩
    · have e : clamp3 x lo hi = x := by unfold clamp3; omega
      rw [e]
      have h1' : x ≤ hi := by omega
      have h0' : lo ≤ x := by omega
      go_enter Tryd.func15, Tryd.ntmps15
      go_wp2_with fail
      go_ret
      exact ⟨rfl, rfl⟩

end Go.Proofs.YtohinonkfhkclaaDoor

namespace Go.Proofs.YtohinonkfhkclaaDoor
open Go.RowKit

/-- The variables of a function that reads the first m alone. -/
theorem sup_lt {n c : Nat} {M : Mgr} {B : List (Int × Bfn)} {f : Int} {F : Bfn} (q : Qk n c M B) (hf : (f, F) ∈ B) {m : Nat} (hF : Rd 0 m F) : ∀ v, v ∈ M.supM f → v < m := by
  intro v hv
  obtain ⟨hv1, hs⟩ := q.at hf
  obtain ⟨k, rfl, sk, _⟩ := Mgr.valid_nat q.wf hv1
  unfold Mgr.supM at hv
  rw [if_pos hv1, Int.toNat_natCast] at hv
  obtain ⟨_, a, ha⟩ := (Mgr.supp_iff q.wf sk v).1 hv
  rcases Nat.lt_or_ge v m with h | h
  · exact h
  · exfalso; apply ha
    have e : ∀ x, M.sem k x = F x := fun x => by have := hs x; rw [Int.toNat_natCast] at this; exact this
    rw [e, e]
    refine hF _ _ (fun u _ hu => ?_)
    rw [Mgr.upd_other _ _ _ _ (by omega), Mgr.upd_other _ _ _ _ (by omega)]

set_option maxRecDepth 100000 in
theorem Sets_arg {p : Nat} {M : Mgr} {L : Lay} {n c : Nat} {B : List (Int × Bfn)} (f : Int) (F : Bfn) (hf : (f, F) ∈ B) (links k : Int) (hk : k < 0 ∨ 2 < k) {w : World} (R : Rep w p M L) (q : Qk n c M B) :
    Calls Tryd.prog 17 #[ptr p, .int .i64 f, .int .i64 links, .int .i64 k] w fun e w' => e = .returned (.tuple #[.slice none 0 0, .int .i64 1]) ∧ Kp No w w' := by
  have VAL := Lib.hid (ValidQ R q hf)
  by_cases h0 : k < 0
  · clear hk R q hf
    go_enter Tryd.func17, Tryd.ntmps17
    go_wp2_with fail
    refine VAL.out.mono ?_
    rintro e w' ⟨rfl, rfl⟩
    clear VAL
    go_wp2_with fail
    refine bodyPost_ret (v := .tuple #[.slice none 0 0, .int .i64 1]) ?_ rfl ⟨rfl, Kp.refl _ _⟩
    simp [results, Tryd.results17, go_sem]
  · have h1 : 2 < k := by omega
    clear hk R q hf
    go_enter Tryd.func17, Tryd.ntmps17
    go_wp2_with fail
    refine VAL.out.mono ?_
    rintro e w' ⟨rfl, rfl⟩
    clear VAL
    go_wp2_with fail
    refine bodyPost_ret (v := .tuple #[.slice none 0 0, .int .i64 1]) ?_ rfl ⟨rfl, Kp.refl _ _⟩
    simp [results, Tryd.results17, go_sem]

set_option maxRecDepth 100000 in
set_option maxHeartbeats 4000000 in
theorem Sets_sup {p : Nat} {M : Mgr} {L : Lay} {n c : Nat} {B : List (Int × Bfn)} (f : Int) (F : Bfn) (hf : (f, F) ∈ B) (hn : n ≤ 256) (hsup : ∃ v, v ∈ M.supM f ∧ 12 ≤ v) (links k : Int) (hk1 : 0 ≤ k) (hk2 : k ≤ 2) {w : World} (R : Rep w p M L) (q : Qk n c M B) :
    Calls Tryd.prog 17 #[ptr p, .int .i64 f, .int .i64 links, .int .i64 k] w fun e w' => e = .returned (.tuple #[.slice none 0 0, .int .i64 1]) ∧ Kp No w w' := by
  have hk3 : ¬ k < 0 := by omega
  have hk4 : ¬ 2 < k := by omega
  have VAL := Lib.hid (ValidQ R q hf)
  have SUP := Lib.hid (Support_ok f R (by rw [q.nn]; exact hn))
  have HS := Lib.hid hsup
  have hsl : (M.supM f).length ≤ 256 := by have := Mgr.supM_len M f; rw [q.nn] at this; omega
  generalize M.supM f = sup at *
  clear R q hf hsup hn
  go_enter Tryd.func17, Tryd.ntmps17
  go_wp2_with fail
  refine VAL.out.mono ?_
  rintro e w' ⟨rfl, rfl⟩
  clear VAL
  go_wp2_with fail
  refine SUP.out.mono ?_
  rintro e wS ⟨sv, rfl, srow, ks⟩
  have KS := Lib.hid ks
  have SROW := Lib.hid (SrcAt.of_row srow)
  obtain ⟨ao, cs, rfl⟩ := row_form srow
  have A0 : Hid (∃ i, i + sup.length = sup.length ∧ Value.int .i64 0 = .int .i64 (i : Int) ∧ (∀ j, j < i → sup.getD j 0 < 12) ∧ Kp No wS wS) := Lib.hid ⟨0, by omega, rfl, fun j h => by omega, Kp.refl _ _⟩
  clear srow ks SUP
  go_wp2_with fail
  go_loopg [33] sup.length (fun gk s x => ∃ i, i + gk = sup.length ∧ s = .int .i64 (i : Int) ∧ (∀ j, j < i → sup.getD j 0 < 12) ∧ Kp No wS x)
  case atStart => exact A0.out
  case round =>
    clear A0
    obtain ⟨i, hi, rfl, hlo, kp⟩ := hrel
    by_cases hlt : i < sup.length
    · obtain ⟨g1, o1, c1, hv1, _, hcell⟩ := (SROW.out.no kp).cellAt (by omega)
      have hv2 : ao = some ⟨g1, o1, none⟩ := by injection hv1
      subst hv2
      have hc := hcell i (natV (sup.getD i 0)) (by simp [hlt])
      unfold natV at hc
      have hlti : (i : Int) < sup.length := by omega
      have KE := Lib.hid (KS.out.trans_no kp)
      by_cases hm : sup.getD i 0 < 12
      · have hmi : ¬ (12 : Int) ≤ (sup.getD i 0 : Int) := by omega
        have JN : Hid (∃ k, k + (sup.length - (i + 1)) = sup.length ∧ Value.int .i64 ((i + 1 : Nat) : Int) = .int .i64 (k : Int) ∧ (∀ j, j < k → sup.getD j 0 < 12) ∧ Kp No wS wr) := Lib.hid ⟨i + 1, by omega, rfl, fun j hj => by
          by_cases e : j = i
          · subst e; exact hm
          · exact hlo j (by omega), kp⟩
        have HI := Lib.hid hi
        clear kp hcell hv1 hm hi hlo KE
        generalize (sup.getD i 0 : Int) = x at *
        go_wp2_with fail
        go_roundg (sup.length - (i + 1))
        case measure => have := HI.out; omega
        case rel => exact JN.out
      · have hmi : (12 : Int) ≤ (sup.getD i 0 : Int) := by omega
        clear kp hcell hv1 hm hi hlo
        generalize (sup.getD i 0 : Int) = x at *
        go_wp2_with fail
        refine bodyPost_ret (v := .tuple #[.slice none 0 0, .int .i64 1]) ?_ rfl ⟨rfl, KE.out⟩
        simp [results, Tryd.results17, go_sem]
    · exfalso
      obtain ⟨v, hv, h12⟩ := HS.out
      obtain ⟨j, hj, rfl⟩ := List.getElem_of_mem hv
      have := hlo j (by omega)
      rw [List.getD_eq_getElem?_getD, List.getElem?_eq_getElem hj] at this
      have h2 : sup[j] < 12 := this
      omega

theorem awake_sets : setsL (atF 3 12 1) 3 2 = [[], [0], [1], [2]] := by decide +kernel
theorem awake_ex : exF (dnF [1]) 12 (asg (gL (encF (dnF [1]) pkz pkz))) = true := by
  rw [exF_eq _ _ 12 (Nat.le_refl _)]
  intro v _ hv
  rw [gL_at _ (by omega), enc_link _ _ _ hv]

/-- A list of a list of lists. -/
theorem NestB.at {b0 g : Nat} {w : World} {v : Value} {ls : List (List Nat)} (h : NestB b0 g w v ls) {i : Nat} (hi : i < ls.length) : ∃ gv cv x, v = .slice (some ⟨gv, 0, none⟩) ls.length cv ∧ w.cell? ⟨gv, i, none⟩ = some x ∧ w.ownsRow b0 3 1 x (ls.getD i []).length ((ls.getD i []).map natV) := by
  obtain ⟨vs, h1, h2, _, h4⟩ := h
  obtain ⟨gv, cv, rfl, _, _, _, hc, _⟩ := ownsRow_open h2 (by omega)
  have hx : vs[i]? = some vs[i] := List.getElem?_eq_getElem (by omega)
  exact ⟨gv, cv, _, rfl, hc i _ hx, (h4 i _ hx).2.1⟩

set_option maxRecDepth 100000 in
set_option maxHeartbeats 8000000 in
theorem fawake_ok {w : World} (g : Gl w) : Calls Tryd.prog 10 #[] w fun e w' => e = .returned (.bool true) ∧ Kp No w w' := by
  have GLW := Lib.hid g
  have NEW := Lib.hid (HNew_ok w)
  clear g
  go_enter Tryd.func10, Tryd.ntmps10
  go_wp2_with fail
  refine NEW.out.mono ?_
  rintro e w1 ⟨p, L1, rfl, R1, k1, o1⟩
  have H1 := Lib.hid (hf_new GLW.out (Kp.refl No w) R1 k1 o1)
  have K1 := Lib.hid k1
  have O1 := Lib.hid o1
  clear R1 k1 o1 NEW
  go_wp2_with fail
  refine (AtMost_ok 3 1 (by omega) H1.out.rep H1.out.qk H1.out.gl H1.out.off (by omega)).mono ?_
  intro e w2 h2
  obtain ⟨r, M2, L2, rfl, hr, f2⟩ := H1.out.step h2
  have H2 := Lib.hid f2
  have SE := Lib.hid (Sets_ok r _ (.head _) (atF_rd 3 12 1 (Nat.le_refl _)) (sup_lt f2.qk (.head _) (atF_rd 3 12 1 (Nat.le_refl _))) 3 2 (by omega) (by omega) f2.rep f2.qk f2.gl)
  rw [show clN 3 12 = 3 from rfl, show (2 : Int).toNat = 2 from rfl, awake_sets] at SE
  clear h2 f2 H1
  go_wp2_with fail
  refine SE.out.mono ?_
  rintro e w3 ⟨v, gx, rfl, nest, k3⟩
  obtain ⟨gv, cv, x0, rfl, c0, r0⟩ := nest.at (i := 0) (by decide)
  obtain ⟨gv2, cv2, x3, hv3, c3, r3⟩ := nest.at (i := 3) (by decide)
  cases hv3
  obtain ⟨a0, d0, rfl⟩ := row_form r0
  obtain ⟨g3, d3, hx3, _, _, _, hc3, _⟩ := ownsRow_open r3 (by decide)
  subst hx3
  have c4 := hc3 0 _ rfl
  have c4' : w3.cell? ⟨g3, 0, none⟩ = some (.int .i64 2) := c4
  have H3 := Lib.hid (H2.out.no k3)
  have KA : Hid (Kp No w3 (w3.alloc (.cells #[.int .i64 1] 3))) := Lib.hid (Kp.alloc _)
  have HA := Lib.hid (H3.out.no KA.out).rebase
  have HB := Lib.hid (H3.out.no KA.out)
  have EXA := Lib.hid (Exactly_ok [1] (by decide) (by decide) HA.out.rep HA.out.qk HA.out.gl HA.out.off (src_new w3 [1] 3) (by omega))
  clear nest r0 r3 hc3 c4 k3 SE H2
  simp only [List.getD_cons_zero, List.length_nil, List.length_cons, List.getD_cons_succ] at *
  go_wp2_with fail
  refine EXA.out.mono ?_
  intro e w4 h4
  obtain ⟨r4, M4, L4, rfl, _, f4⟩ := HB.out.step h4
  have H4 := Lib.hid f4
  have EN : Hid (Calls Tryd.prog 32 #[.slice (some ⟨w4.heap.size, 0, none⟩) 1 1, .agg #[.int .u32 0, .int .u32 0, .int .i64 0, .int .i64 0, .int .i64 0], .agg #[.int .u32 0, .int .u32 0, .int .i64 0, .int .i64 0, .int .i64 0]] (w4.alloc (.cells #[.int .i64 1] 3)) (EncPost (w4.alloc (.cells #[.int .i64 1] 3)) (encF (dnF [1]) pkz pkz))) := Lib.hid (Encode_ok [1] pkz pkz pkz_ok.in32 pkz_ok.in32 (f4.gl.no (Kp.alloc _)) (src_new w4 [1] 3) (by decide))
  clear h4 f4 EXA HA HB H3 KA c0 c3 c4'
  go_wp2_with fail
  refine Calls.mono EN.out ?_
  rintro e w5 ⟨ga, rfl, row5, k5⟩
  have EV := Lib.hid (EvalQ (H4.out.rep.no ((Kp.alloc _).trans_no k5)) H4.out.qk (.head _) (bools_row row5))
  rw [awake_ex] at EV
  have H5 := Lib.hid (H4.out.no ((Kp.alloc _).trans_no k5))
  clear row5 k5 EN H4
  go_wp2_with fail
  refine EV.out.mono ?_
  rintro e w6 ⟨rfl, k6⟩
  have KF := Lib.hid ((H5.out.no k6).kpNo K1.out O1.out)
  clear k6 EV H5
  go_wp2_with fail
  go_ret
  exact ⟨rfl, KF.out⟩

end Go.Proofs.YtohinonkfhkclaaDoor
