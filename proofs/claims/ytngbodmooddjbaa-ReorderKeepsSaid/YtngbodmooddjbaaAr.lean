/-
  Changing the order, plain part: the restrictions of a function and how many there are.
-/
import Derived.Test.YtngbodmooddjbaaQn
namespace Go.Proofs.Ytngbodmooddjbaa

def mxS (S a b : Nat → Bool) : Nat → Bool := fun v => if S v then a v else b v
theorem mix_mxS (M : Mgr) (d : Nat) (a b : Nat → Bool) : M.mix d a b = mxS (fun v => decide (M.lev v < d)) a b := by
  funext v
  unfold Mgr.mix mxS
  by_cases h : M.lev v < d <;> simp [h]

/-- G is F with some variables fixed. -/
def Rst (F G : Bfn) : Prop := ∃ S a : Nat → Bool, G = fun b => F (mxS S a b)
theorem Rst.self (F : Bfn) : Rst F F := ⟨fun _ => false, fun _ => false, funext fun b => congrArg F (funext fun v => by simp [mxS])⟩
theorem Rst.trans {F G H : Bfn} (h : Rst F G) (h' : Rst G H) : Rst F H := by
  obtain ⟨S, a, rfl⟩ := h
  obtain ⟨T, c, rfl⟩ := h'
  refine ⟨fun v => S v || T v, mxS S a c, funext fun b => congrArg F (funext fun v => ?_)⟩
  unfold mxS
  cases hs : S v <;> cases ht : T v <;> simp [hs, ht]
theorem Rst.upd (F : Bfn) (v : Nat) (x : Bool) : Rst F (fun a => F (Mgr.upd a v x)) :=
  ⟨fun u => decide (u = v), fun _ => x, funext fun b => congrArg F (funext fun u => by unfold mxS Mgr.upd; by_cases e : u = v <;> simp [e])⟩
theorem Rst.cof {M : Mgr} {F G : Bfn} (h : M.Cof F G) : Rst F G := by
  obtain ⟨d, a, rfl⟩ := h
  exact ⟨fun v => decide (M.lev v < d), a, funext fun b => by rw [mix_mxS]⟩

def tri (S a : Nat → Bool) : Nat → Nat
  | 0 => 0
  | n + 1 => tri S a n * 3 + (if S n then (if a n then 2 else 1) else 0)
theorem tri_lt (S a : Nat → Bool) : ∀ n, tri S a n < 3 ^ n
  | 0 => by simp [tri]
  | n + 1 => by
    have ih := tri_lt S a n
    have e : 3 ^ (n + 1) = 3 ^ n * 3 := Nat.pow_succ 3 n
    simp only [tri]
    split
    · split <;> omega
    · omega
theorem tri_inj (S a S' a' : Nat → Bool) : ∀ n, tri S a n = tri S' a' n → ∀ v, v < n → S v = S' v ∧ (S v = true → a v = a' v)
  | 0, _, v, hv => by omega
  | n + 1, e, v, hv => by
    simp only [tri] at e
    have key : tri S a n = tri S' a' n ∧ S n = S' n ∧ (S n = true → a n = a' n) := by
      cases h1 : S n <;> cases h2 : S' n <;> cases h3 : a n <;> cases h4 : a' n <;> simp [h1, h2, h3, h4] at e ⊢ <;> omega
    by_cases hn : v = n
    · subst hn; exact key.2
    · exact tri_inj S a S' a' n key.1 v (by omega)
theorem Listed.rst {n : Nat} {F : Bfn} (hF : Rd 0 n F) : Listed (Rst F) (3 ^ n) := by
  refine Listed.code (A := (Nat → Bool) × (Nat → Bool)) (P := fun _ => True) (fun x b => F (mxS x.1 x.2 b)) (fun x => tri x.1 x.2 n) (fun x _ => tri_lt _ _ n) (fun x y _ _ e => funext fun b => hF _ _ fun v _ hv => ?_) (fun G hG => ?_)
  · obtain ⟨h1, h2⟩ := tri_inj _ _ _ _ n e v hv
    unfold mxS
    rw [← h1]
    cases hs : x.1 v
    · rfl
    · rw [if_pos rfl, if_pos rfl]; exact h2 hs
  · obtain ⟨S, a, e⟩ := hG
    exact ⟨(S, a), trivial, e.symm⟩

/-- What is stored while the functions of l are made in another order. -/
def ArF (n : Nat) (l : List Bfn) (G : Bfn) : Prop := (∃ F, F ∈ l ∧ Rst F G) ∨ ∃ v, v < n ∧ G = fun a => a v
theorem Listed.rsts {n : Nat} : ∀ (l : List Bfn), (∀ F, F ∈ l → Rd 0 n F) → Listed (fun G => ∃ F, F ∈ l ∧ Rst F G) (l.length * 3 ^ n)
  | [], _ => ⟨fun _ _ => false, fun _ ⟨_, h, _⟩ => by cases h⟩
  | F :: l, h => by
    refine ((Listed.rst (h F (.head _))).or (Listed.rsts l (fun G hG => h G (.tail _ hG)))).mono (fun _ hG => ?_) (by rw [List.length_cons, Nat.succ_mul]; omega)
    obtain ⟨F', h1, h2⟩ := hG
    rcases List.mem_cons.1 h1 with rfl | h1
    · exact .inl h2
    · exact .inr ⟨F', h1, h2⟩
theorem Listed.arF {n : Nat} (l : List Bfn) (h : ∀ F, F ∈ l → Rd 0 n F) : Listed (ArF n l) (l.length * 3 ^ n + n) :=
  (Listed.rsts l h).or ⟨fun i a => a i, fun _ ⟨v, hv, e⟩ => ⟨v, hv, e.symm⟩⟩

namespace Mgr
theorem sem_rd {M : Mgr} (h : M.WF) {f : Nat} (hf : M.stored f) : Rd 0 M.n (M.sem f) := fun a b hab => sem_agree h _ f hf (Nat.le_refl _) a b (fun v hv _ => hab v (Nat.zero_le _) hv)

/-- The map 'image'. -/
def ImS (M N : Mgr) (K : Int → Option Nat) : Prop := K 0 = some 0 ∧ K 1 = some 1 ∧ ∀ x r, K x = some r → ∃ f : Nat, x = (f : Int) ∧ M.stored f ∧ N.stored r ∧ ∀ a, N.sem r a = M.sem f a
theorem ImS.ext {M N N' : Mgr} {K : Int → Option Nat} (h : N.WF) (s : ImS M N K) (e : Ext N N') : ImS M N' K := ⟨s.1, s.2.1, fun x r hr => by
  obtain ⟨f, hx, sf, sr, hs⟩ := s.2.2 x r hr
  exact ⟨f, hx, sf, e.stored sr, fun a => by rw [e.sem h sr]; exact hs a⟩⟩
/-- 'join' of two functions that are cofactors of one that is made. -/
theorem join_arF {N : Mgr} {n : Nat} {l : List Bfn} (h : N.WF) (hn : N.n = n) {v lo hi : Nat} {F : Bfn} (hv : v < n) (hl : N.stored lo) (hh : N.stored hi) (el : ∀ a, N.sem lo a = F (upd a v false)) (eh : ∀ a, N.sem hi a = F (upd a v true)) (hF : ∃ G, G ∈ l ∧ Rst G F) :
    Adds N (N.joinM v lo hi).1 (ArF n l) ∧ (N.joinM v lo hi).1.stored (N.joinM v lo hi).2 ∧ ∀ a, (N.joinM v lo hi).1.sem (N.joinM v lo hi).2 a = F a := by
  subst hn
  have sp := join_spec h hv hl hh
  have e : joinF N v lo hi = F := funext fun a => by
    unfold joinF
    rw [el, eh]
    cases hx : a v
    · rw [if_neg (by simp), ← hx, upd_self]
    · rw [if_pos rfl, ← hx, upd_self]
  refine ⟨(join_adds h hv hl hh).mono (fun G hG => ?_), sp.st, fun a => by rw [sp.sem, e]⟩
  rcases hG with hG | hG
  · rw [e] at hG
    obtain ⟨G0, h0, h1⟩ := hF
    exact .inl ⟨G0, h0, h1.trans (Rst.cof hG)⟩
  · exact .inr ⟨v, hv, hG⟩
end Mgr

end Go.Proofs.Ytngbodmooddjbaa
