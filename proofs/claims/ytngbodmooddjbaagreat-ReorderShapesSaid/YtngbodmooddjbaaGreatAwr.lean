/-
  Walks: 'awake' of the package netverifylaw28.
-/
import Derived.Test.YtngbodmooddjbaaGreatSt2
import Derived.Test.YtngbodmooddjbaaGreatSvi
import Derived.Test.YtngbodmooddjbaaGreatFront
import Derived.Test.YtngbodmooddjbaaGreatQ
import Derived.Test.YtngbodmooddjbaaGreatKeep
namespace Go.Proofs.YtngbodmooddjbaaGreat
open Go.RowKit

def awG : Bfn := fun a => (a 0 && a 2) || (a 1 && a 3)
def cA (M : Mgr) : Mgr × Int := M.varM 0
def cB (M : Mgr) : Mgr × Int := (cA M).1.varM 2
def cC (M : Mgr) : Mgr × Int := (cB M).1.andM (cA M).2 (cB M).2
def cD (M : Mgr) : Mgr × Int := (cC M).1.varM 1
def cE (M : Mgr) : Mgr × Int := (cD M).1.varM 3
def cG (M : Mgr) : Mgr × Int := (cE M).1.andM (cD M).2 (cE M).2
def cH (M : Mgr) : Mgr × Int := (cG M).1.orM (cC M).2 (cG M).2
theorem up_and {n i j : Nat} (hi : i < n) (hj : j < n) : Upto n (fun a => a i && a j) := fun a b h => by show (_ && _) = (_ && _); rw [h i hi, h j hj]
theorem up_awG : Upto 4 awG := fun a b h => by unfold awG; rw [h 0 (by omega), h 1 (by omega), h 2 (by omega), h 3 (by omega)]
theorem cH_ok {M : Mgr} (h : M.WF) (hn : M.n = 4) : (cH M).1.WF ∧ (cH M).1.order = M.order ∧ (cH M).1.valid (cH M).2 = true ∧ ∀ a, (cH M).1.sem (cH M).2.toNat a = awG a := by
  have o1 := Mgr.varM_ops h (v := 0) (by omega)
  have o2 := Mgr.varM_ops o1.wf (v := 2) (by rw [o1.n]; omega)
  have o3 := Mgr.andM_ops o2.wf (F := fun a => a 0 && a 2) (o2.old _ o1.ok).1 o2.ok (fun a => by rw [(o2.old _ o1.ok).2, o1.sem, o2.sem]) (Mgr.states_any ((up_and (n := 4) (by omega) (by omega)).reads (by rw [o2.n, o1.n, hn])))
  have o4 := Mgr.varM_ops o3.wf (v := 1) (by rw [o3.n, o2.n, o1.n]; omega)
  have o5 := Mgr.varM_ops o4.wf (v := 3) (by rw [o4.n, o3.n, o2.n, o1.n]; omega)
  have o6 := Mgr.andM_ops o5.wf (F := fun a => a 1 && a 3) (o5.old _ o4.ok).1 o5.ok (fun a => by rw [(o5.old _ o4.ok).2, o4.sem, o5.sem]) (Mgr.states_any ((up_and (n := 4) (by omega) (by omega)).reads (by rw [o5.n, o4.n, o3.n, o2.n, o1.n, hn])))
  have v4 := o4.old _ o3.ok
  have v5 := o5.old _ v4.1
  have v6 := o6.old _ v5.1
  have o7 := Mgr.orM_ops o6.wf (F := awG) v6.1 o6.ok (fun a => by rw [v6.2, v5.2, v4.2, o3.sem, o6.sem]; rfl) (Mgr.states_any (up_awG.reads (by rw [o6.n, o5.n, o4.n, o3.n, o2.n, o1.n, hn])))
  refine ⟨o7.wf, ?_, o7.ok, o7.sem⟩
  have e := o7.order
  rw [o6.order, o5.order, o4.order, o3.order, o2.order, o1.order] at e
  exact e

/-- The same function has the same size under the same order. -/
theorem SameF.size {M M' : Mgr} (h : M.WF) (h' : M'.WF) (eo : M'.order = M.order) {f g : Nat} (e : SameF M M' f g) : M.size f = M'.size g := by
  have hn : M'.n = M.n := by unfold Mgr.n; rw [eo]
  have r := SameS.walk h h' eo (M.n + 1) (s := ([], [])) (t := ([], [])) ⟨trivial, trivial⟩ e
  have := AllR.len r.2
  unfold Mgr.size Mgr.nodesOf
  rw [hn]
  exact this
theorem total_one {M : Mgr} {f : Int} (hf : M.valid f = true) : (saveN M (saveM M [f]).1.2).length = M.size f.toNat := by
  rw [saveN_len]
  have : saveM M [f] = saveStep M (([], []), []) f := rfl
  rw [this]
  unfold saveStep
  rw [if_pos hf]
  rfl

/-- What is known of the manager in 'awake' ahead of 'Set'. -/
structure A8 (M : Mgr) (f : Int) : Prop where
  order : M.order = [0, 1, 2, 3]
  ok : M.valid f = true
  sem : ∀ a, M.sem f.toNat a = awG a
  size : M.sizeM f = 6
  nb : (visF M).length * 3 ^ M.n + M.n + 2 ≤ big
  nl : M.nodes.length ≤ 1000000
  vl : (visF M).length ≤ 100
structure B8 (a1 a2 a3 a4 a5 a6 a7 : Mgr × Int) : Prop where
  e1 : a1 = (Mgr.new 4).varM 0
  e2 : a2 = a1.1.varM 2
  e3 : a3 = a2.1.andM a1.2 a2.2
  e4 : a4 = a3.1.varM 1
  e5 : a5 = a4.1.varM 3
  e6 : a6 = a5.1.andM a4.2 a5.2
  e7 : a7 = a6.1.orM a3.2 a6.2
  b1 : a1.1.nodes.length ≤ big
  b2 : a2.1.nodes.length ≤ big
  b3 : a3.1.nodes.length ≤ big
  b4 : a4.1.nodes.length ≤ big
  b5 : a5.1.nodes.length ≤ big
  b6 : a6.1.nodes.length ≤ big
  b7 : a7.1.nodes.length ≤ big
  fin : A8 a7.1 a7.2
theorem awk8 : ∃ a1 a2 a3 a4 a5 a6 a7, B8 a1 a2 a3 a4 a5 a6 a7 := by
  obtain ⟨h1, h2, h3, h4⟩ := cH_ok (Mgr.new_wf 4) rfl
  exact ⟨cA (Mgr.new 4), cB (Mgr.new 4), cC (Mgr.new 4), cD (Mgr.new 4), cE (Mgr.new 4), cG (Mgr.new 4), cH (Mgr.new 4), ⟨rfl, rfl, rfl, rfl, rfl, rfl, rfl, by decide +kernel, by decide +kernel, by decide +kernel, by decide +kernel, by decide +kernel, by decide +kernel, by decide +kernel,
    ⟨h2, h3, h4, by decide +kernel, by decide +kernel, by decide +kernel, by decide +kernel⟩⟩⟩
/-- Under the order 0 2 1 3 it has four nodes. -/
theorem near4 {M : Mgr} {f : Int} (h : M.WF) (ho : M.order = [0, 2, 1, 3]) (hf : M.valid f = true) (hs : ∀ a, M.sem f.toNat a = awG a) : M.size f.toNat = 4 := by
  have hp : PermL [0, 2, 1, 3] := by
    refine ⟨by decide, fun v hv => ?_⟩
    simp at hv
    simp
    omega
  obtain ⟨h1, h2, h3, h4⟩ := cH_ok (newO_wf hp) rfl
  obtain ⟨m, rfl, sm, _⟩ := Mgr.valid_nat h hf
  obtain ⟨k, hk, sk, _⟩ := Mgr.valid_nat h1 h3
  have e : SameF (cH (newO [0, 2, 1, 3])).1 M k m := ⟨sk, sm, fun a => by
    have q1 := h4 a
    have q2 := hs a
    rw [hk] at q1
    rw [Int.toNat_natCast] at q1 q2
    rw [q1, q2]⟩
  have r := e.size h1 h (by rw [ho, h2]; rfl)
  rw [Int.toNat_natCast, ← r]
  have d : (cH (newO [0, 2, 1, 3])).1.size (cH (newO [0, 2, 1, 3])).2.toNat = 4 := by decide +kernel
  rw [hk, Int.toNat_natCast] at d
  exact d

/-- A change of the order of a manager of the call's own. -/
theorem Own.ar {w0 w w' : World} {p : Nat} {M : Mgr} {L : Lay} {l : List Nat} (s : Own w0 p w M L) (h : ArS w p M L l w') :
    ∃ (M' : Mgr) (L' : Lay), Own w0 p w' M' L' ∧ M'.order = l ∧ (∀ f, M'.vis f = M.vis f) ∧ (∀ f, M.vis f = true → ∀ a, M'.sem f a = M.sem f a) ∧ M'.nodes.length ≤ M.nodes.length + ((visF M).length * 3 ^ M.n + M.n + 2) := by
  obtain ⟨M', L', r, o, v, sm, n, kp, fr⟩ := h
  refine ⟨M', L', ⟨r, s.kp.trans (A' := L.at p) (fun x hx => .inr (s.own x hx)) kp, fun x hx => ?_⟩, o, v, sm, n⟩
  rcases fr x hx with h1 | h1
  · exact s.own x h1
  · have := s.kp.size; omega

end Go.Proofs.YtngbodmooddjbaaGreat

namespace Go.Proofs.YtngbodmooddjbaaGreat
open Go.RowKit

theorem mem_order4 (w : World) (l : List Nat) : SrcAt (w.alloc (.cells (l.map natV).toArray 3)) (.slice (some ⟨w.heap.size, 0, none⟩) l.length l.length) 1 l.length (l.map natV) :=
  ⟨_, l.length, rfl, by simp, .inr ⟨w.heap.size, 0, rfl, heap_lt (heap_alloc_new w _), fun j u hu => by
    have h := heap_alloc_new w (.cells (l.map natV).toArray 3)
    rw [Nat.zero_add, cell_of_row _ _ _ _ _ _ h]
    simpa using hu⟩⟩

theorem mem_ints (w : World) (l : List Int) (t : TypeId) : SrcAt (w.alloc (.cells (l.map intV).toArray t)) (.slice (some ⟨w.heap.size, 0, none⟩) l.length l.length) 1 l.length (l.map intV) :=
  ⟨_, l.length, rfl, by simp, .inr ⟨w.heap.size, 0, rfl, heap_lt (heap_alloc_new w _), fun j u hu => by
    have h := heap_alloc_new w (.cells (l.map intV).toArray t)
    rw [Nat.zero_add, cell_of_row _ _ _ _ _ _ h]
    simpa using hu⟩⟩

set_option maxRecDepth 100000 in
set_option maxHeartbeats 4000000 in
theorem rawake_ok (w : World) : Calls Tryz.prog 4 #[] w fun e w' => e = .returned (.bool true) ∧ Kp No w w' := by
  obtain ⟨a1, a2, a3, a4, a5, a6, a7, A⟩ := awk8
  have HA := Lib.hid A
  have hnew := New_ok 4 w
  rw [show nvars 4 = 4 from rfl] at hnew
  have HN := Lib.hid hnew
  clear A hnew
  go_enter Tryz.func4, Tryz.ntmps4
  go_wp2_with fail
  refine HN.out.mono ?_
  rintro e w1 ⟨p, L1, rfl, R1, k1, o1⟩
  have s1 : Own w p w1 (Mgr.new 4) L1 := ⟨R1, k1, o1⟩
  clear R1 k1 o1 HN
  go_wp2_with fail
  refine (Var_ok 0 s1.rep (by rw [← HA.out.e1]; exact HA.out.b1)).mono ?_
  intro e w2 h2
  rw [← HA.out.e1] at h2
  obtain ⟨rfl, L2, s2⟩ := s1.step h2
  clear h2 s1
  go_wp2_with fail
  refine (Var_ok 2 s2.rep (by rw [← HA.out.e2]; exact HA.out.b2)).mono ?_
  intro e w3 h3
  rw [← HA.out.e2] at h3
  obtain ⟨rfl, L3, s3⟩ := s2.step h3
  clear h3 s2
  go_wp2_with fail
  refine (And_ok _ _ s3.rep (by rw [← HA.out.e3]; exact HA.out.b3)).mono ?_
  intro e w4 h4
  rw [← HA.out.e3] at h4
  obtain ⟨rfl, L4, s4⟩ := s3.step h4
  clear h4 s3
  go_wp2_with fail
  refine (Var_ok 1 s4.rep (by rw [← HA.out.e4]; exact HA.out.b4)).mono ?_
  intro e w5 h5
  rw [← HA.out.e4] at h5
  obtain ⟨rfl, L5, s5⟩ := s4.step h5
  clear h5 s4
  go_wp2_with fail
  refine (Var_ok 3 s5.rep (by rw [← HA.out.e5]; exact HA.out.b5)).mono ?_
  intro e w6 h6
  rw [← HA.out.e5] at h6
  obtain ⟨rfl, L6, s6⟩ := s5.step h6
  clear h6 s5
  go_wp2_with fail
  refine (And_ok _ _ s6.rep (by rw [← HA.out.e6]; exact HA.out.b6)).mono ?_
  intro e w7 h7
  rw [← HA.out.e6] at h7
  obtain ⟨rfl, L7, s7⟩ := s6.step h7
  clear h7 s6
  go_wp2_with fail
  refine (Or_ok _ _ s7.rep (by rw [← HA.out.e7]; exact HA.out.b7)).mono ?_
  intro e w8 h8
  rw [← HA.out.e7] at h8
  obtain ⟨rfl, L8, s8⟩ := s7.step h8
  clear h8 s7
  have F8 := Lib.hid HA.out.fin
  clear HA
  obtain ⟨M, f⟩ := a7
  simp only at *
  go_wp2_with fail
  refine (Size_ok f s8.rep).mono ?_
  rw [F8.out.size]
  rintro e w9 ⟨rfl, k9⟩
  have s9 := Lib.hid ((s8.no k9).no (Kp.alloc (.cells #[.int .i64 0, .int .i64 2, .int .i64 1, .int .i64 3] 3)))
  have hn4 : M.n = 4 := by unfold Mgr.n; rw [F8.out.order]; rfl
  have SE := Lib.hid (Set_ok (l := [0, 2, 1, 3]) s9.out.rep (by omega) (mem_order4 w9 [0, 2, 1, 3]) (by decide) F8.out.nb (by have := F8.out.nl; omega))
  clear k9 s8
  go_wp2_with fail
  refine SE.out.mono ?_
  rintro e w10 ⟨b, hb, rfl, h10, _⟩
  obtain rfl : b = true := hb.2 (by rw [hn4]; refine ⟨rfl, by decide, fun v hv => ?_⟩; simp at hv; omega)
  obtain ⟨M2, L9, s10, ho, hvis, hsem, hlen⟩ := s9.out.ar (h10 rfl)
  have S10 := Lib.hid s10
  have vf : M2.valid f = true := by
    have := F8.out.ok
    unfold Mgr.valid at this ⊢
    rw [hvis]; exact this
  have sf : ∀ a, M2.sem f.toNat a = awG a := by
    obtain ⟨m, rfl, _, hm⟩ := Mgr.valid_nat s9.out.rep.wf F8.out.ok
    intro a
    rw [← F8.out.sem a]
    exact hsem _ hm a
  have o2 : M2.order = [0, 2, 1, 3] := ho
  have SZ : Hid (M2.size f.toNat = 4) := Lib.hid (near4 s10.rep.wf o2 vf sf)
  have SM : Hid (M2.sizeM f = 4) := Lib.hid ((if_pos vf : M2.sizeM f = M2.size f.toNat).trans SZ.out)
  have TO : Hid ((saveN M2 (saveM M2 [f]).1.2).length = 4) := Lib.hid ((total_one vf).trans SZ.out)
  have EV : Hid (M2.evalM f [true, false, true] = true) := Lib.hid ((if_pos vf : M2.evalM f [true, false, true] = M2.sem f.toNat (asg [true, false, true])).trans (by rw [sf]; rfl))
  have n2 : Hid (M2.n = 4) := Lib.hid (by unfold Mgr.n; rw [o2]; rfl)
  have O2 := Lib.hid o2
  have NL : Hid (M2.nodes.length < big) := Lib.hid (by
    have h1 := F8.out.nl
    have h2 := F8.out.nb
    have h3 := F8.out.vl
    have h4 : 3 ^ M.n = 81 := by rw [hn4]
    rw [h4] at hlen
    rw [hn4] at hlen
    unfold big
    omega)
  clear s10 ho hvis hsem hlen h10 hb SE s9 vf sf o2 hn4 F8
  go_wp2_with fail
  refine (Size_ok f S10.out.rep).mono ?_
  rw [SM.out]
  rintro e w11 ⟨rfl, k11⟩
  have s11 := Lib.hid ((S10.out.no k11).no (Kp.alloc (.cells #[.int .i64 f] 40)))
  clear k11 S10 SM
  have TC := Lib.hid (Total_ok [f] s11.out.rep (mem_ints w11 [f] 40) (by simp) NL.out)
  rw [TO.out] at TC
  go_wp2_with fail
  refine TC.out.mono ?_
  rintro e w12 ⟨rfl, k12⟩
  have s12 := Lib.hid (s11.out.no k12)
  clear k12 TC TO NL s11
  have OC := Lib.hid (Order_ok s12.out.rep (by rw [n2.out]; omega))
  go_wp2_with fail
  refine OC.out.mono ?_
  rintro e w13 ⟨ov, rfl, orow, k13⟩
  rw [O2.out] at orow
  have s13 := Lib.hid ((s12.out.no k13).no (Kp.alloc (.cells #[.int .i64 0, .int .i64 2, .int .i64 1, .int .i64 3] 3)))
  have IC := Lib.hid (Ints_ok (l1 := [0, 2, 1, 3]) (l2 := [0, 2, 1, 3]) ((SrcAt.of_row orow).no (Kp.alloc (.cells #[.int .i64 0, .int .i64 2, .int .i64 1, .int .i64 3] 3))) (mem_ints w13 [0, 2, 1, 3] 3) (by decide))
  rw [decide_eq_true (rfl : ([0, 2, 1, 3] : List Int) = [0, 2, 1, 3])] at IC
  obtain ⟨av, cv, rfl, _⟩ := ownsRow_len (row_zero orow)
  clear orow k13 OC s12
  go_wp2_with fail
  refine IC.out.mono ?_
  rintro e w14 ⟨rfl, m14, rfl⟩
  have s14 := Lib.hid (s13.out.no (Kp.drewN m14))
  clear IC s13
  generalize (w13.alloc (.cells #[.int .i64 0, .int .i64 2, .int .i64 1, .int .i64 3] 3)).drewN m14 = w15 at *
  have EC := Lib.hid (Eval_ok f (l := [true, false, true]) (s14.out.rep.no (Kp.alloc _)) (bools_new w15 [true, false, true] (by simp [maxLen_val])))
  rw [EV.out] at EC
  go_wp2_with fail
  refine EC.out.mono ?_
  rintro e w16 ⟨rfl, k16⟩
  have s16 := Lib.hid (s14.out.no ((Kp.alloc _).trans_no k16))
  clear k16 EC s14
  have SB := Lib.hid (Swap_bad 3 s16.out.rep (by rw [n2.out]; omega) (.inr (by rw [n2.out]; decide)))
  go_wp2_with fail
  refine SB.out.mono ?_
  rintro e w17 ⟨rfl, k17⟩
  have KF := Lib.hid (s16.out.kp.trans_no k17)
  clear k17 SB s16
  go_wp2_with fail
  go_ret
  exact ⟨rfl, KF.out⟩

end Go.Proofs.YtngbodmooddjbaaGreat
