/-
  Plain: the function of 'awake' of chapter 28 under two orders; sizes under one order.
-/
import Derived.Test.YtngbodmooddjbaaSt2
import Derived.Test.YtngbodmooddjbaaSvi
import Derived.Test.YtngbodmooddjbaaFront
namespace Go.Proofs.Ytngbodmooddjbaa
open Go.RowKit

def awG : Bfn := fun a => (a 0 && a 2) || (a 1 && a 3)
def cA (M : Mgr) : Mgr × Int := M.varM 0
def cB (M : Mgr) : Mgr × Int := (cA M).1.varM 2
def cC (M : Mgr) : Mgr × Int := (cB M).1.andM (cA M).2 (cB M).2
def cD (M : Mgr) : Mgr × Int := (cC M).1.varM 1
def cE (M : Mgr) : Mgr × Int := (cD M).1.varM 3
def cG (M : Mgr) : Mgr × Int := (cE M).1.andM (cD M).2 (cE M).2
def cH (M : Mgr) : Mgr × Int := (cG M).1.orM (cC M).2 (cG M).2
theorem up_and {n i j : Nat} (hi : i < n) (hj : j < n) : Upto n (fun a => a i && a j) := fun a b h => by show (_ && _) = (_ && _); rw [h i hi, h j hj]
theorem up_awG : Upto 4 awG := fun a b h => by unfold awG; rw [h 0 (by omega), h 1 (by omega), h 2 (by omega), h 3 (by omega)]
theorem cH_ok {M : Mgr} (h : M.WF) (hn : M.n = 4) : (cH M).1.WF ∧ (cH M).1.order = M.order ∧ (cH M).1.valid (cH M).2 = true ∧ ∀ a, (cH M).1.sem (cH M).2.toNat a = awG a := by
  have o1 := Mgr.varM_ops h (v := 0) (by omega)
  have o2 := Mgr.varM_ops o1.wf (v := 2) (by rw [o1.n]; omega)
  have o3 := Mgr.andM_ops o2.wf (F := fun a => a 0 && a 2) (o2.old _ o1.ok).1 o2.ok (fun a => by rw [(o2.old _ o1.ok).2, o1.sem, o2.sem]) (Mgr.states_any ((up_and (n := 4) (by omega) (by omega)).reads (by rw [o2.n, o1.n, hn])))
  have o4 := Mgr.varM_ops o3.wf (v := 1) (by rw [o3.n, o2.n, o1.n]; omega)
  have o5 := Mgr.varM_ops o4.wf (v := 3) (by rw [o4.n, o3.n, o2.n, o1.n]; omega)
  have o6 := Mgr.andM_ops o5.wf (F := fun a => a 1 && a 3) (o5.old _ o4.ok).1 o5.ok (fun a => by rw [(o5.old _ o4.ok).2, o4.sem, o5.sem]) (Mgr.states_any ((up_and (n := 4) (by omega) (by omega)).reads (by rw [o5.n, o4.n, o3.n, o2.n, o1.n, hn])))
  have v4 := o4.old _ o3.ok
  have v5 := o5.old _ v4.1
  have v6 := o6.old _ v5.1
  have o7 := Mgr.orM_ops o6.wf (F := awG) v6.1 o6.ok (fun a => by rw [v6.2, v5.2, v4.2, o3.sem, o6.sem]; rfl) (Mgr.states_any (up_awG.reads (by rw [o6.n, o5.n, o4.n, o3.n, o2.n, o1.n, hn])))
  refine ⟨o7.wf, ?_, o7.ok, o7.sem⟩
  have e := o7.order
  rw [o6.order, o5.order, o4.order, o3.order, o2.order, o1.order] at e
  exact e

/-- The same function has the same size under the same order. -/
theorem SameF.size {M M' : Mgr} (h : M.WF) (h' : M'.WF) (eo : M'.order = M.order) {f g : Nat} (e : SameF M M' f g) : M.size f = M'.size g := by
  have hn : M'.n = M.n := by unfold Mgr.n; rw [eo]
  have r := SameS.walk h h' eo (M.n + 1) (s := ([], [])) (t := ([], [])) ⟨trivial, trivial⟩ e
  have := AllR.len r.2
  unfold Mgr.size Mgr.nodesOf
  rw [hn]
  exact this
theorem total_one {M : Mgr} {f : Int} (hf : M.valid f = true) : (saveN M (saveM M [f]).1.2).length = M.size f.toNat := by
  rw [saveN_len]
  have : saveM M [f] = saveStep M (([], []), []) f := rfl
  rw [this]
  unfold saveStep
  rw [if_pos hf]
  rfl

/-- What is known of the manager in 'awake' ahead of 'Set'. -/
structure A8 (M : Mgr) (f : Int) : Prop where
  order : M.order = [0, 1, 2, 3]
  ok : M.valid f = true
  sem : ∀ a, M.sem f.toNat a = awG a
  size : M.sizeM f = 6
  nb : (visF M).length * 3 ^ M.n + M.n + 2 ≤ big
  nl : M.nodes.length ≤ 1000000
  vl : (visF M).length ≤ 100
structure B8 (a1 a2 a3 a4 a5 a6 a7 : Mgr × Int) : Prop where
  e1 : a1 = (Mgr.new 4).varM 0
  e2 : a2 = a1.1.varM 2
  e3 : a3 = a2.1.andM a1.2 a2.2
  e4 : a4 = a3.1.varM 1
  e5 : a5 = a4.1.varM 3
  e6 : a6 = a5.1.andM a4.2 a5.2
  e7 : a7 = a6.1.orM a3.2 a6.2
  b1 : a1.1.nodes.length ≤ big
  b2 : a2.1.nodes.length ≤ big
  b3 : a3.1.nodes.length ≤ big
  b4 : a4.1.nodes.length ≤ big
  b5 : a5.1.nodes.length ≤ big
  b6 : a6.1.nodes.length ≤ big
  b7 : a7.1.nodes.length ≤ big
  fin : A8 a7.1 a7.2
theorem awk8 : ∃ a1 a2 a3 a4 a5 a6 a7, B8 a1 a2 a3 a4 a5 a6 a7 := by
  obtain ⟨h1, h2, h3, h4⟩ := cH_ok (Mgr.new_wf 4) rfl
  exact ⟨cA (Mgr.new 4), cB (Mgr.new 4), cC (Mgr.new 4), cD (Mgr.new 4), cE (Mgr.new 4), cG (Mgr.new 4), cH (Mgr.new 4), ⟨rfl, rfl, rfl, rfl, rfl, rfl, rfl, by decide +kernel, by decide +kernel, by decide +kernel, by decide +kernel, by decide +kernel, by decide +kernel, by decide +kernel,
    ⟨h2, h3, h4, by decide +kernel, by decide +kernel, by decide +kernel, by decide +kernel⟩⟩⟩
/-- Under the order 0 2 1 3 it has four nodes. -/
theorem near4 {M : Mgr} {f : Int} (h : M.WF) (ho : M.order = [0, 2, 1, 3]) (hf : M.valid f = true) (hs : ∀ a, M.sem f.toNat a = awG a) : M.size f.toNat = 4 := by
  have hp : PermL [0, 2, 1, 3] := by
    refine ⟨by decide, fun v hv => ?_⟩
    simp at hv
    simp
    omega
  obtain ⟨h1, h2, h3, h4⟩ := cH_ok (newO_wf hp) rfl
  obtain ⟨m, rfl, sm, _⟩ := Mgr.valid_nat h hf
  obtain ⟨k, hk, sk, _⟩ := Mgr.valid_nat h1 h3
  have e : SameF (cH (newO [0, 2, 1, 3])).1 M k m := ⟨sk, sm, fun a => by
    have q1 := h4 a
    have q2 := hs a
    rw [hk] at q1
    rw [Int.toNat_natCast] at q1 q2
    rw [q1, q2]⟩
  have r := e.size h1 h (by rw [ho, h2]; rfl)
  rw [Int.toNat_natCast, ← r]
  have d : (cH (newO [0, 2, 1, 3])).1.size (cH (newO [0, 2, 1, 3])).2.toNat = 4 := by decide +kernel
  rw [hk, Int.toNat_natCast] at d
  exact d

/-- A change of the order of a manager of the call's own. -/
theorem Own.ar {w0 w w' : World} {p : Nat} {M : Mgr} {L : Lay} {l : List Nat} (s : Own w0 p w M L) (h : ArS w p M L l w') :
    ∃ (M' : Mgr) (L' : Lay), Own w0 p w' M' L' ∧ M'.order = l ∧ (∀ f, M'.vis f = M.vis f) ∧ (∀ f, M.vis f = true → ∀ a, M'.sem f a = M.sem f a) ∧ M'.nodes.length ≤ M.nodes.length + ((visF M).length * 3 ^ M.n + M.n + 2) := by
  obtain ⟨M', L', r, o, v, sm, n, kp, fr⟩ := h
  refine ⟨M', L', ⟨r, s.kp.trans (A' := L.at p) (fun x hx => .inr (s.own x hx)) kp, fun x hx => ?_⟩, o, v, sm, n⟩
  rcases fr x hx with h1 | h1
  · exact s.own x h1
  · have := s.kp.size; omega

end Go.Proofs.Ytngbodmooddjbaa
