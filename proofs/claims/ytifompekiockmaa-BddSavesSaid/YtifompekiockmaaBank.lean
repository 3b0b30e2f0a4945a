/-
  The operations of a manager of at most six variables, told by the functions that the Refs denote.
-/
import Derived.Test.YtifompekiockmaaFront
namespace Go.Proofs.Ytifompekiockmaa
open Go.RowKit

/-- What is known of the Refs of a manager: pairs of a Ref and its function; a bound on the nodes. -/
structure Bk (n c : Nat) (M : Mgr) (B : List (Int × BF)) : Prop where
  wf : M.WF
  nn : M.n = n
  cost : M.nodes.length ≤ c
  sem : ∀ x, x ∈ B → M.valid x.1 = true ∧ (∀ a, M.sem x.1.toNat a = x.2 a) ∧ Upto n x.2

theorem Bk.at {n c : Nat} {M : Mgr} {B : List (Int × BF)} (b : Bk n c M B) {f : Int} {F : BF} (h : (f, F) ∈ B) : M.valid f = true ∧ (∀ a, M.sem f.toNat a = F a) ∧ Upto n F := b.sem _ h

theorem Bk.push {n c k : Nat} {M M' : Mgr} {B : List (Int × BF)} {F : BF} {r : Int} (b : Bk n c M B) (o : Mgr.OpS M F k M' r) (hF : Upto n F) {c' : Nat} (hc : c + k ≤ c') : Bk n c' M' ((r, F) :: B) := by
  refine ⟨o.wf, by rw [o.n, b.nn], by have := o.len; have := b.cost; omega, fun x hx => ?_⟩
  rcases List.mem_cons.1 hx with rfl | hx
  · exact ⟨o.ok, o.sem, hF⟩
  · obtain ⟨a1, a2, a3⟩ := b.sem x hx
    obtain ⟨b1, b2⟩ := o.old x.1 a1
    exact ⟨b1, fun a => by rw [b2, a2], a3⟩

theorem Bk.sub {n c : Nat} {M : Mgr} {B B' : List (Int × BF)} (b : Bk n c M B) (h : ∀ x, x ∈ B' → x ∈ B) : Bk n c M B' := ⟨b.wf, b.nn, b.cost, fun x hx => b.sem x (h x hx)⟩

/-- Equal functions, equal Refs. -/
theorem Bk.eq {n c : Nat} {M : Mgr} {B : List (Int × BF)} (b : Bk n c M B) {f g : Int} {F G : BF} (hf : (f, F) ∈ B) (hg : (g, G) ∈ B) (e : ∀ a, F a = G a) : f = g := by
  obtain ⟨v1, s1, _⟩ := b.at hf
  obtain ⟨v2, s2, _⟩ := b.at hg
  exact Mgr.valid_canon b.wf v1 v2 (fun a => by rw [s1, s2]; exact e a)
theorem Bk.eq_conv {n c : Nat} {M : Mgr} {B : List (Int × BF)} (b : Bk n c M B) {f : Int} {F G : BF} (hf : (f, F) ∈ B) (hg : (f, G) ∈ B) : ∀ a, F a = G a := by
  obtain ⟨v1, s1, _⟩ := b.at hf
  obtain ⟨v2, s2, _⟩ := b.at hg
  exact fun a => by rw [← s1, ← s2]

/-- The constants. -/
theorem Bk.consts {n c : Nat} {M : Mgr} {B : List (Int × BF)} (b : Bk n c M B) : Bk n c M ((0, fun _ => false) :: (1, fun _ => true) :: B) := by
  refine ⟨b.wf, b.nn, b.cost, fun x hx => ?_⟩
  rcases List.mem_cons.1 hx with rfl | hx
  · exact ⟨Mgr.valid_zero b.wf, fun a => Mgr.sem_zero M a, fun _ _ _ => rfl⟩
  · rcases List.mem_cons.1 hx with rfl | hx
    · exact ⟨Mgr.valid_one b.wf, fun a => Mgr.sem_one M a, fun _ _ _ => rfl⟩
    · exact b.sem x hx

/-- The Refs of a run. -/
theorem Bk.of_rp {n c : Nat} {M : Mgr} {fs : List Int} {Fs : List BF} (h : RP n c M fs Fs) : Bk n c M (fs.zip Fs) := by
  refine ⟨h.wf, h.nn, h.cost, fun x hx => ?_⟩
  obtain ⟨i, hi, e⟩ := List.getElem_of_mem hx
  have hi3 : i < min fs.length Fs.length := by simpa using hi
  have hi2 : i < fs.length ∧ i < Fs.length := by omega
  rw [List.getElem_zip] at e
  subst e
  exact h.sem i _ _ (by simp [hi2.1]) (by simp [hi2.2])
theorem mem_zip {fs : List Int} {Fs : List BF} {i : Nat} (hi : i < fs.length) (hl : Fs.length = fs.length) : (fs.getD i 0, Fs.getD i (fun _ => false)) ∈ fs.zip Fs := by
  have h2 : i < Fs.length := by omega
  have : (fs.zip Fs)[i]? = some (fs[i], Fs[i]) := by rw [List.getElem?_zip_eq_some]; simp [hi, h2]
  have := List.mem_of_getElem? this
  simpa [hi, h2] using this

/-- What an operation leaves. -/
def OpB (p n c : Nat) (L : Lay) (wr : World) (F : BF) (B : List (Int × BF)) (e : Ending) (w' : World) : Prop :=
  ∃ r M', Ret p L wr M' (.int .i64 r) e w' ∧ Bk n c M' ((r, F) :: B) ∧ 0 ≤ r

theorem Bk.nonneg {n c : Nat} {M : Mgr} {B : List (Int × BF)} (b : Bk n c M B) {r : Int} {F : BF} (h : (r, F) ∈ B) : 0 ≤ r := by
  obtain ⟨v, _⟩ := b.at h
  obtain ⟨k, hk, _⟩ := Mgr.valid_nat b.wf v
  omega

section
variable {p n c : Nat} {M : Mgr} {L : Lay} {wr : World} {B : List (Int × BF)} {f g h : Int} {F G H : BF}

theorem Upto.not (u : Upto n F) : Upto n (fun a => !F a) := fun a b hab => by show (!_) = (!_); rw [u a b hab]
theorem Upto.and (u : Upto n F) (v : Upto n G) : Upto n (fun a => F a && G a) := fun a b hab => by show (_ && _) = (_ && _); rw [u a b hab, v a b hab]
theorem Upto.or (u : Upto n F) (v : Upto n G) : Upto n (fun a => F a || G a) := fun a b hab => by show (_ || _) = (_ || _); rw [u a b hab, v a b hab]
theorem Upto.xor (u : Upto n F) (v : Upto n G) : Upto n (fun a => F a ^^ G a) := fun a b hab => by show (_ ^^ _) = (_ ^^ _); rw [u a b hab, v a b hab]
theorem Upto.ite (u : Upto n F) (v : Upto n G) (x : Upto n H) : Upto n (fun a => if F a then G a else H a) := fun a b hab => by show (if _ then _ else _) = (if _ then _ else _); rw [u a b hab, v a b hab, x a b hab]
theorem Upto.upd {v : Nat} {b : Bool} (u : Upto n F) : Upto n (fun a => F (Mgr.upd a v b)) := fun a a' hab => u _ _ (fun x hx => by
  unfold Mgr.upd; split
  · rfl
  · exact hab x hx)

/-- From the spec of an operation to its contract. -/
theorem OpB.of {k : Nat} {M' : Mgr} {r : Int} {e : Ending} {w' : World} (b : Bk n c M B) (o : Mgr.OpS M F k M' r) (hF : Upto n F) {c' : Nat} (hc : c + k ≤ c') (h : Ret p L wr M' (.int .i64 r) e w') : OpB p n c' L wr F B e w' :=
  have b' := b.push o hF hc
  ⟨r, M', h, b', b'.nonneg (.head _)⟩

theorem NotB (hn : n ≤ 6) (R : Rep wr p M L) (b : Bk n c M B) (hc : c ≤ 1000000) (hf : (f, F) ∈ B) : Calls Try.prog 24 #[ptr p, .int .i64 f] wr (OpB p n (c + 768) L wr (fun a => !F a) B) := by
  obtain ⟨v1, s1, u1⟩ := b.at hf
  have o := Mgr.notM_ops b.wf v1 (F := fun a => !F a) (fun a => by rw [s1]) (Mgr.states_any (u1.not.reads b.nn))
  rw [b.nn] at o
  have := n_cost hn
  have := o.len
  have := b.cost
  exact (Not_ok f R (by unfold big; omega)).mono (fun e w' h => OpB.of b o u1.not (by omega) h)
theorem AndB (hn : n ≤ 6) (R : Rep wr p M L) (b : Bk n c M B) (hc : c ≤ 1000000) (hf : (f, F) ∈ B) (hg : (g, G) ∈ B) : Calls Try.prog 20 #[ptr p, .int .i64 f, .int .i64 g] wr (OpB p n (c + 768) L wr (fun a => F a && G a) B) := by
  obtain ⟨v1, s1, u1⟩ := b.at hf
  obtain ⟨v2, s2, u2⟩ := b.at hg
  have o := Mgr.andM_ops b.wf v1 v2 (F := fun a => F a && G a) (fun a => by rw [s1, s2]) (Mgr.states_any ((u1.and u2).reads b.nn))
  rw [b.nn] at o
  have := n_cost hn
  have := o.len
  have := b.cost
  exact (And_ok f g R (by unfold big; omega)).mono (fun e w' h => OpB.of b o (u1.and u2) (by omega) h)
theorem OrB (hn : n ≤ 6) (R : Rep wr p M L) (b : Bk n c M B) (hc : c ≤ 1000000) (hf : (f, F) ∈ B) (hg : (g, G) ∈ B) : Calls Try.prog 22 #[ptr p, .int .i64 f, .int .i64 g] wr (OpB p n (c + 768) L wr (fun a => F a || G a) B) := by
  obtain ⟨v1, s1, u1⟩ := b.at hf
  obtain ⟨v2, s2, u2⟩ := b.at hg
  have o := Mgr.orM_ops b.wf v1 v2 (F := fun a => F a || G a) (fun a => by rw [s1, s2]) (Mgr.states_any ((u1.or u2).reads b.nn))
  rw [b.nn] at o
  have := n_cost hn
  have := o.len
  have := b.cost
  exact (Or_ok f g R (by unfold big; omega)).mono (fun e w' h => OpB.of b o (u1.or u2) (by omega) h)
theorem XorB (hn : n ≤ 6) (R : Rep wr p M L) (b : Bk n c M B) (hc : c ≤ 1000000) (hf : (f, F) ∈ B) (hg : (g, G) ∈ B) : Calls Try.prog 21 #[ptr p, .int .i64 f, .int .i64 g] wr (OpB p n (c + 768) L wr (fun a => F a ^^ G a) B) := by
  obtain ⟨v1, s1, u1⟩ := b.at hf
  obtain ⟨v2, s2, u2⟩ := b.at hg
  have ut : Upto n (fun a => !M.sem g.toNat a) := fun a b hab => by show (!_) = (!_); rw [s2, s2, u2 a b hab]
  have o := Mgr.xorM_ops b.wf v1 v2 (F := fun a => F a ^^ G a) (fun a => by rw [s1, s2]) (Mgr.states_any ((u1.xor u2).reads b.nn)) (Mgr.states_any (ut.reads b.nn))
  rw [b.nn] at o
  have := n_cost hn
  have := o.len
  have := b.cost
  exact (Xor_ok f g R (by unfold big; omega)).mono (fun e w' h => OpB.of b o (u1.xor u2) (by omega) h)
theorem IteB (hn : n ≤ 6) (R : Rep wr p M L) (b : Bk n c M B) (hc : c ≤ 1000000) (hf : (f, F) ∈ B) (hg : (g, G) ∈ B) (hh : (h, H) ∈ B) :
    Calls Try.prog 35 #[ptr p, .int .i64 f, .int .i64 g, .int .i64 h] wr (OpB p n (c + 768) L wr (fun a => if F a then G a else H a) B) := by
  obtain ⟨v1, s1, u1⟩ := b.at hf
  obtain ⟨v2, s2, u2⟩ := b.at hg
  obtain ⟨v3, s3, u3⟩ := b.at hh
  have o := Mgr.iteM_ops b.wf v1 v2 v3 (F := fun a => if F a then G a else H a) (fun a => by rw [s1, s2, s3]) (Mgr.states_any ((u1.ite u2 u3).reads b.nn))
  rw [b.nn] at o
  have := n_cost hn
  have := o.len
  have := b.cost
  exact (Ite_ok f g h R (by unfold big; omega)).mono (fun e w' h => OpB.of b o (u1.ite u2 u3) (by omega) h)
theorem RestrictB (hn : n ≤ 6) (R : Rep wr p M L) (b : Bk n c M B) (hc : c ≤ 1000000) (hf : (f, F) ∈ B) {v : Nat} (hv : v < n) (x : Bool) :
    Calls Try.prog 36 #[ptr p, .int .i64 f, .int .i64 (v : Int), .bool x] wr (OpB p n (c + 768) L wr (fun a => F (Mgr.upd a v x)) B) := by
  obtain ⟨v1, s1, u1⟩ := b.at hf
  have o := Mgr.restrictM_ops b.wf v1 (v := v) (by rw [b.nn]; exact hv) x (F := fun a => F (Mgr.upd a v x)) (fun a => by rw [s1]) (Mgr.states_any (u1.upd.reads b.nn))
  rw [b.nn] at o
  have := n_cost hn
  have := o.len
  have := b.cost
  exact (Restrict_ok f (v : Int) x R (by unfold big; omega)).mono (fun e w' h => OpB.of b o u1.upd (by omega) h)
theorem VarB (R : Rep wr p M L) (b : Bk n c M B) (hc : c ≤ 1000000) {v : Nat} (hv : v < n) :
    Calls Try.prog 19 #[ptr p, .int .i64 (v : Int)] wr (OpB p n (c + 768) L wr (fun a => a v) B) := by
  have o := Mgr.varM_ops b.wf (v := v) (by rw [b.nn]; exact hv)
  have := o.len
  have := b.cost
  exact (Var_ok (v : Int) R (by unfold big; omega)).mono (fun e w' h => OpB.of b o (fun a b hab => hab v hv) (by omega) h)
end

/-! ### the index of an assignment -/
def idx : Nat → (Nat → Bool) → Nat
  | 0, _ => 0
  | m + 1, a => idx m a + if a m then 2 ^ m else 0
theorem idx_lt : ∀ (m : Nat) (a : Nat → Bool), idx m a < 2 ^ m
  | 0, _ => by simp [idx]
  | m + 1, a => by have := idx_lt m a; simp only [idx]; rw [Nat.pow_succ]; split <;> omega
theorem idx_bit : ∀ (m : Nat) (a : Nat → Bool) (v : Nat), v < m → bitsOf (idx m a) v = a v
  | 0, _, _, hv => by omega
  | m + 1, a, v, hv => by
    have hl := idx_lt m a
    have ih := idx_bit m a v
    unfold bitsOf at ih ⊢
    simp only [idx]
    by_cases e : v = m
    · subst e
      cases a v
      · simpa using Nat.testBit_lt_two_pow hl
      · rw [if_pos rfl, Nat.add_comm, Nat.testBit_two_pow_add_eq, Nat.testBit_lt_two_pow hl]; rfl
    · have hv' : v < m := by omega
      rw [← ih hv']
      split
      · rw [Nat.add_comm, Nat.testBit_two_pow_add_gt hv']
      · rfl

theorem tab_eq {n : Nat} {F G : BF} (hF : Upto n F) (hG : Upto n G) : tab n F = tab n G ↔ ∀ a, F a = G a := by
  constructor
  · intro e a
    have h := congrArg (fun l => l[idx n a]?) e
    simp only [tab_get _ (idx_lt n a), Option.some.injEq] at h
    rw [hF a (bitsOf (idx n a)) (fun v hv => (idx_bit n a v hv).symm), hG a (bitsOf (idx n a)) (fun v hv => (idx_bit n a v hv).symm), h]
  · intro h
    unfold tab
    simp [h]

theorem Bk.eqT {n c : Nat} {M : Mgr} {B : List (Int × BF)} (b : Bk n c M B) {f g : Int} {F G : BF} (hf : (f, F) ∈ B) (hg : (g, G) ∈ B) : Go.Proofs.Ytifompekiockmaa.eqT n F G = (f == g) := by
  obtain ⟨v1, s1, u1⟩ := b.at hf
  obtain ⟨v2, s2, u2⟩ := b.at hg
  rw [Bool.eq_iff_iff]
  unfold Go.Proofs.Ytifompekiockmaa.eqT
  rw [decide_eq_true_iff, tab_eq u1 u2, beq_iff_eq]
  constructor
  · exact fun h => b.eq hf hg h
  · intro e a
    rw [← s1, ← s2, e]

end Go.Proofs.Ytifompekiockmaa
