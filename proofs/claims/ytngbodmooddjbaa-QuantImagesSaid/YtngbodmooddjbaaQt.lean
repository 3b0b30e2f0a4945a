/-
  The reference for lists of variables: Variables, Distinct, Exists, ForAll, Implies.
-/
import Derived.Test.YtngbodmooddjbaaRvd
import Derived.Test.YtngbodmooddjbaaQr
import Derived.Test.YtngbodmooddjbaaRefT
import Derived.Deep.RegionHeld3
namespace Go.Proofs.Ytngbodmooddjbaa
open Go.RowKit

/-! ### Exists -/
/-- A table somewhere. -/
def TPost0 (w : World) (t : List Bool) (e : Ending) (w' : World) : Prop := ∃ v, e = .returned v ∧ Tb 0 w' v t ∧ Kp No w w'
def orF (u : Nat) (G : Bfn) : Bfn := fun a => G (Mgr.upd a u false) || G (Mgr.upd a u true)
def RExR (w : World) (n : Nat) (l : List Nat) (F : Bfn) (gk : Nat) (s0 s5 : Value) (x : World) : Prop :=
  ∃ k v G, k + gk = l.length ∧ s5 = .int .i64 (k : Int) ∧ v = s0 ∧ Upto n G ∧ exQ (l.drop k) G = exQ l F ∧ Tb 0 x v (tab n G) ∧ Kp No w x
theorem Upto.exQ {n : Nat} {l : List Nat} {F : Bfn} (h : Upto n F) : Upto n (Go.Proofs.Ytngbodmooddjbaa.exQ l F) := fun a b hab => by
  rw [Bool.eq_iff_iff, exQ_iff, exQ_iff]
  have e : ∀ c, F (ovr l c a) = F (ovr l c b) := fun c => h _ _ (fun v hv => by unfold ovr; split; rfl; exact hab v hv)
  simp only [e]
theorem imp_eqT {n : Nat} {F G : Bfn} (hF : Upto n F) (hG : Upto n G) : eqT n (fun a => F a || G a) G = true ↔ ∀ a, F a = true → G a = true := by
  unfold eqT
  rw [decide_eq_true_iff, tab_eq (fun a b hab => by rw [hF a b hab, hG a b hab]) hG]
  constructor
  · intro h a ha
    have := h a
    rw [← this, ha]; rfl
  · intro h a
    cases ha : F a with
    | false => rfl
    | true => rw [h a ha]; rfl

end Go.Proofs.Ytngbodmooddjbaa
