/-
  Plain mathematics: how many cofactors a function has at each level, for managers in the plain order.
-/
import Derived.Test.YtgglkldoclejaaaDoorOps
namespace Go.Proofs.YtgglkldoclejaaaDoor

/-- The function reads the variables from lo to hi - 1 alone. -/
def Rd (lo hi : Nat) (F : (Nat → Bool) → Bool) : Prop := ∀ a b : Nat → Bool, (∀ v, lo ≤ v → v < hi → a v = b v) → F a = F b
theorem Rd.mono {lo hi lo' hi' : Nat} {F : (Nat → Bool) → Bool} (h : Rd lo hi F) (h1 : lo' ≤ lo) (h2 : hi ≤ hi') : Rd lo' hi' F := fun a b hab => h a b (fun v h3 h4 => hab v (by omega) (by omega))
theorem Rd.const (lo hi : Nat) (c : Bool) : Rd lo hi (fun _ => c) := fun _ _ _ => rfl
theorem Rd.var (v : Nat) : Rd v (v + 1) (fun a => a v) := fun _ _ h => h v (by omega) (by omega)
theorem Rd.not {lo hi : Nat} {F : (Nat → Bool) → Bool} (h : Rd lo hi F) : Rd lo hi (fun a => !F a) := fun a b hab => by show (!F a) = (!F b); rw [h a b hab]
theorem Rd.op {lo hi : Nat} {F G : (Nat → Bool) → Bool} (op : Bool → Bool → Bool) (h : Rd lo hi F) (g : Rd lo hi G) : Rd lo hi (fun a => op (F a) (G a)) := fun a b hab => by show op (F a) (G a) = op (F b) (G b); rw [h a b hab, g a b hab]

/-- In every manager of n variables in the plain order F has at most s cofactors a level. -/
def PSt (n : Nat) (F : (Nat → Bool) → Bool) (s : Nat) : Prop := ∀ M : Mgr, M.n = n → M.Plain → M.States F s

theorem PSt.mono {n : Nat} {F : (Nat → Bool) → Bool} {s t : Nat} (h : PSt n F s) (ht : s ≤ t) : PSt n F t := fun M hn hp => by
  obtain ⟨st, h1, h2⟩ := h M hn hp
  exact ⟨st, fun d a => Nat.lt_of_lt_of_le (h1 d a) ht, h2⟩
theorem PSt.congr {n : Nat} {F G : (Nat → Bool) → Bool} {s : Nat} (h : PSt n F s) (e : ∀ a, G a = F a) : PSt n G s := by
  have : G = F := funext e
  rw [this]; exact h
theorem PSt.const (n : Nat) (c : Bool) : PSt n (fun _ => c) 1 := fun _ _ _ => ⟨fun _ _ => 0, fun _ _ => Nat.lt_succ_self 0, fun _ _ _ _ _ => rfl⟩
theorem PSt.not {n : Nat} {F : (Nat → Bool) → Bool} {s : Nat} (h : PSt n F s) : PSt n (fun a => !F a) s := fun M hn hp => by
  obtain ⟨st, h1, h2⟩ := h M hn hp
  exact ⟨st, h1, fun d a a' e b => by show (!_) = (!_); rw [h2 d a a' e b]⟩
theorem PSt.op {n : Nat} {F G : (Nat → Bool) → Bool} {s t : Nat} (op : Bool → Bool → Bool) (h : PSt n F s) (g : PSt n G t) : PSt n (fun a => op (F a) (G a)) (s * t) := fun M hn hp => by
  obtain ⟨st, h1, h2⟩ := h M hn hp
  obtain ⟨su, g1, g2⟩ := g M hn hp
  refine ⟨fun d a => st d a * t + su d a, fun d a => ?_, fun d a a' e b => ?_⟩
  · have a1 := h1 d a
    have a2 := g1 d a
    show st d a * t + su d a < s * t
    have : (st d a + 1) * t ≤ s * t := Nat.mul_le_mul_right t a1
    rw [Nat.add_mul] at this
    omega
  · have a2 := g1 d a
    have a2' := g1 d a'
    have ht : 0 < t := by omega
    have e1 : (su d a + st d a * t) / t = (su d a' + st d a' * t) / t := by
      have : su d a + st d a * t = su d a' + st d a' * t := by have := e; dsimp only at this; omega
      rw [this]
    rw [Nat.add_mul_div_right _ _ ht, Nat.add_mul_div_right _ _ ht, Nat.div_eq_of_lt a2, Nat.div_eq_of_lt a2', Nat.zero_add, Nat.zero_add] at e1
    have e2 : su d a = su d a' := by have := e; dsimp only at this; rw [e1] at this; omega
    show op _ _ = op _ _
    rw [h2 d a a' e1 b, g2 d a a' e2 b]

/-- A conjunction of a function of the upper variables and one of the lower ones. -/
theorem PSt.and_above {n lo mid mid' hi : Nat} {H F : (Nat → Bool) → Bool} {s t : Nat} (hH : Rd lo mid H) (hF : Rd mid' hi F) (hm : mid ≤ mid') (hm2 : mid ≤ n) (hn : hi ≤ n) (h : PSt n H t) (f : PSt n F s) : PSt n (fun a => H a && F a) (t + s + 1) := fun M nn hp => by
  obtain ⟨st, h1, h2⟩ := h M nn hp
  obtain ⟨su, f1, f2⟩ := f M nn hp
  refine ⟨fun d a => if d ≤ mid then st d a else if H a then t + 1 + su d a else t, fun d a => ?_, fun d a a' e b => ?_⟩
  · have a1 := h1 d a
    have a2 := f1 d a
    dsimp only
    split
    · omega
    · split <;> omega
  · dsimp only at e ⊢
    by_cases hd : d ≤ mid
    · rw [if_pos hd, if_pos hd] at e
      have e1 : ∀ x, F (M.mix d x b) = F b := fun x => hF _ _ (fun v h3 h4 => by unfold Mgr.mix; rw [hp v (by omega), if_neg (by omega)])
      rw [h2 d a a' e b, e1 a, e1 a']
    · rw [if_neg hd, if_neg hd] at e
      have e1 : ∀ x, H (M.mix d x b) = H x := fun x => hH _ _ (fun v h3 h4 => by unfold Mgr.mix; rw [hp v (by omega), if_pos (by omega)])
      rw [e1 a, e1 a']
      have b1 := f1 d a
      have b2 := f1 d a'
      cases ha : H a <;> cases ha' : H a' <;> simp only [ha, ha', if_true, if_false, Bool.false_eq_true, Bool.false_and, Bool.true_and] at e ⊢
      · omega
      · omega
      · exact f2 d a a' (by omega) b
theorem PSt.or_above {n lo mid mid' hi : Nat} {H F : (Nat → Bool) → Bool} {s t : Nat} (hH : Rd lo mid H) (hF : Rd mid' hi F) (hm : mid ≤ mid') (hm2 : mid ≤ n) (hn : hi ≤ n) (h : PSt n H t) (f : PSt n F s) : PSt n (fun a => H a || F a) (t + s + 1) :=
  (PSt.and_above hH.not hF.not hm hm2 hn h.not f.not).not.congr (fun a => by cases H a <;> cases F a <;> rfl)

theorem PSt.var (n v : Nat) (hv : v < n) : PSt n (fun a => a v) 2 := fun M hn hp => by
  refine ⟨fun d a => if v < d ∧ a v = true then 1 else 0, fun d a => by dsimp only; split <;> omega, fun d a a' e b => ?_⟩
  dsimp only at e
  show M.mix d a b v = M.mix d a' b v
  unfold Mgr.mix
  rw [hp v (by omega)]
  by_cases hd : v < d
  · simp only [hd, true_and, if_true] at e ⊢
    cases ha : a v <;> cases ha' : a' v <;> simp [ha, ha'] at e ⊢
  · rw [if_neg hd, if_neg hd]

/-- A function of the first m variables. -/
theorem PSt.few {n m : Nat} {F : (Nat → Bool) → Bool} (hF : Rd 0 m F) : PSt n F (2 ^ m) := fun M _ _ => by
  refine ⟨fun _ a => Mgr.code m a, fun _ a => Mgr.code_lt _ a, fun d a a' h b => hF _ _ (fun v _ hv => ?_)⟩
  have := Mgr.code_inj m a a' h v hv
  unfold Mgr.mix; split
  · exact this
  · rfl

end Go.Proofs.YtgglkldoclejaaaDoor
