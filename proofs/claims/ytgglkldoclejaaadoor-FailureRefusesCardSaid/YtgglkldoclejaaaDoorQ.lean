/-
  The operations of a manager of any number of variables in the plain order, told by the functions that the Refs denote; the nodes are counted by the functions' cofactors.
-/
import Derived.Test.YtgglkldoclejaaaDoorAwake
import Derived.Test.YtgglkldoclejaaaDoorSt
import Derived.Test.YtgglkldoclejaaaDoorRes
namespace Go.Proofs.YtgglkldoclejaaaDoor
open Go.RowKit

abbrev Bfn := (Nat → Bool) → Bool

/-- What is known of the Refs of a manager: pairs of a Ref and its function; a bound on the nodes. -/
structure Qk (n c : Nat) (M : Mgr) (B : List (Int × Bfn)) : Prop where
  wf : M.WF
  nn : M.n = n
  pl : M.Plain
  cost : M.nodes.length ≤ c
  sem : ∀ x, x ∈ B → M.valid x.1 = true ∧ ∀ a, M.sem x.1.toNat a = x.2 a

theorem Qk.at {n c : Nat} {M : Mgr} {B : List (Int × Bfn)} (b : Qk n c M B) {f : Int} {F : Bfn} (h : (f, F) ∈ B) : M.valid f = true ∧ ∀ a, M.sem f.toNat a = F a := b.sem _ h
theorem Qk.rd {n c : Nat} {M : Mgr} {B : List (Int × Bfn)} (b : Qk n c M B) {f : Int} {F : Bfn} (h : (f, F) ∈ B) : Rd 0 n F := fun x y hxy => by
  obtain ⟨v, s⟩ := b.at h
  obtain ⟨k, rfl, sk, _⟩ := Mgr.valid_nat b.wf v
  rw [← s, ← s]
  exact Mgr.sem_reads b.wf sk x y (fun v hv _ => hxy v (by omega) (by rw [← b.nn]; exact hv))
theorem Qk.push {n c k : Nat} {M M' : Mgr} {B : List (Int × Bfn)} {F : Bfn} {r : Int} (b : Qk n c M B) (o : Mgr.OpS M F k M' r) {c' : Nat} (hc : c + k ≤ c') : Qk n c' M' ((r, F) :: B) := by
  refine ⟨o.wf, by rw [o.n, b.nn], o.plain b.pl, by have := o.len; have := b.cost; omega, fun x hx => ?_⟩
  rcases List.mem_cons.1 hx with rfl | hx
  · exact ⟨o.ok, o.sem⟩
  · obtain ⟨a1, a2⟩ := b.sem x hx
    obtain ⟨b1, b2⟩ := o.old x.1 a1
    exact ⟨b1, fun a => by rw [b2, a2]⟩
theorem Qk.sub {n c : Nat} {M : Mgr} {B B' : List (Int × Bfn)} (b : Qk n c M B) (h : ∀ x, x ∈ B' → x ∈ B) : Qk n c M B' := ⟨b.wf, b.nn, b.pl, b.cost, fun x hx => b.sem x (h x hx)⟩
theorem Qk.mono {n c c' : Nat} {M : Mgr} {B : List (Int × Bfn)} (b : Qk n c M B) (h : c ≤ c') : Qk n c' M B := ⟨b.wf, b.nn, b.pl, Nat.le_trans b.cost h, b.sem⟩
theorem Qk.tail {n c : Nat} {M : Mgr} {B : List (Int × Bfn)} {x : Int × Bfn} (b : Qk n c M (x :: B)) : Qk n c M B := b.sub (fun _ h => List.mem_cons_of_mem _ h)
theorem Qk.cong {n c : Nat} {M : Mgr} {B : List (Int × Bfn)} {r : Int} {F G : Bfn} (b : Qk n c M ((r, F) :: B)) (e : ∀ a, F a = G a) : Qk n c M ((r, G) :: B) := by
  have : F = G := funext e
  rw [← this]; exact b

/-- Equal functions, equal Refs. -/
theorem Qk.eq {n c : Nat} {M : Mgr} {B : List (Int × Bfn)} (b : Qk n c M B) {f g : Int} {F G : Bfn} (hf : (f, F) ∈ B) (hg : (g, G) ∈ B) (e : ∀ a, F a = G a) : f = g := by
  obtain ⟨v1, s1⟩ := b.at hf
  obtain ⟨v2, s2⟩ := b.at hg
  exact Mgr.valid_canon b.wf v1 v2 (fun a => by rw [s1, s2]; exact e a)
theorem Qk.eq_conv {n c : Nat} {M : Mgr} {B : List (Int × Bfn)} (b : Qk n c M B) {f : Int} {F G : Bfn} (hf : (f, F) ∈ B) (hg : (f, G) ∈ B) : ∀ a, F a = G a := by
  obtain ⟨v1, s1⟩ := b.at hf
  obtain ⟨v2, s2⟩ := b.at hg
  exact fun a => by rw [← s1, ← s2]
theorem Qk.consts {n c : Nat} {M : Mgr} {B : List (Int × Bfn)} (b : Qk n c M B) : Qk n c M ((0, fun _ => false) :: (1, fun _ => true) :: B) := by
  refine ⟨b.wf, b.nn, b.pl, b.cost, fun x hx => ?_⟩
  rcases List.mem_cons.1 hx with rfl | hx
  · exact ⟨Mgr.valid_zero b.wf, fun a => Mgr.sem_zero M a⟩
  · rcases List.mem_cons.1 hx with rfl | hx
    · exact ⟨Mgr.valid_one b.wf, fun a => Mgr.sem_one M a⟩
    · exact b.sem x hx
theorem Qk.nonneg {n c : Nat} {M : Mgr} {B : List (Int × Bfn)} (b : Qk n c M B) {r : Int} {F : Bfn} (h : (r, F) ∈ B) : 0 ≤ r := by
  obtain ⟨v, _⟩ := b.at h
  obtain ⟨k, hk, _⟩ := Mgr.valid_nat b.wf v
  omega

theorem Mgr.new_n' (n : Nat) : (Mgr.new n).n = n := by simp [Mgr.n, Mgr.new]
theorem Qk.new (n : Nat) : Qk n 2 (Mgr.new n) [] := by
  refine ⟨Mgr.new_wf n, Mgr.new_n' n, fun v hv => ?_, by simp [Mgr.new], fun x hx => by simp at hx⟩
  rw [Mgr.new_n'] at hv
  simp [Mgr.lev, Mgr.new, hv]

/-- What an operation leaves. -/
def OpQ (p n c : Nat) (L : Lay) (w : World) (F : Bfn) (B : List (Int × Bfn)) (e : Ending) (w' : World) : Prop := ∃ r M', Ret p L w M' (.int .i64 r) e w' ∧ Qk n c M' ((r, F) :: B) ∧ 0 ≤ r

section
variable {p n c : Nat} {M : Mgr} {L : Lay} {wr : World} {B : List (Int × Bfn)} {f g h : Int} {F G H : Bfn}

theorem OpQ.of {k : Nat} {M' : Mgr} {r : Int} {e : Ending} {w' : World} (b : Qk n c M B) (o : Mgr.OpS M F k M' r) {c' : Nat} (hc : c + k ≤ c') (h : Ret p L wr M' (.int .i64 r) e w') : OpQ p n c' L wr F B e w' :=
  have b' := b.push o hc
  ⟨r, M', h, b', b'.nonneg (.head _)⟩

theorem NotQ (R : Rep wr p M L) (b : Qk n c M B) (hf : (f, F) ∈ B) {s : Nat} (hs : PSt n F s) (hc : c + n * s ≤ 1000000000000) : Calls Tryd.prog 55 #[ptr p, .int .i64 f] wr (OpQ p n (c + n * s) L wr (fun a => !F a) B) := by
  obtain ⟨v1, s1⟩ := b.at hf
  have o := Mgr.notM_ops b.wf v1 (F := fun a => !F a) (fun a => by rw [s1]) (hs.not M b.nn b.pl)
  rw [b.nn] at o
  have := o.len
  have := b.cost
  exact (Not_ok f R (by unfold big; omega)).mono (fun e w' h => OpQ.of b o (Nat.le_refl _) h)
theorem AndQ (R : Rep wr p M L) (b : Qk n c M B) (hf : (f, F) ∈ B) (hg : (g, G) ∈ B) {s : Nat} (hs : PSt n (fun a => F a && G a) s) (hc : c + n * s ≤ 1000000000000) : Calls Tryd.prog 54 #[ptr p, .int .i64 f, .int .i64 g] wr (OpQ p n (c + n * s) L wr (fun a => F a && G a) B) := by
  obtain ⟨v1, s1⟩ := b.at hf
  obtain ⟨v2, s2⟩ := b.at hg
  have o := Mgr.andM_ops b.wf v1 v2 (F := fun a => F a && G a) (fun a => by rw [s1, s2]) (hs M b.nn b.pl)
  rw [b.nn] at o
  have := o.len
  have := b.cost
  exact (And_ok f g R (by unfold big; omega)).mono (fun e w' h => OpQ.of b o (Nat.le_refl _) h)
theorem OrQ (R : Rep wr p M L) (b : Qk n c M B) (hf : (f, F) ∈ B) (hg : (g, G) ∈ B) {s : Nat} (hs : PSt n (fun a => F a || G a) s) (hc : c + n * s ≤ 1000000000000) : Calls Tryd.prog 51 #[ptr p, .int .i64 f, .int .i64 g] wr (OpQ p n (c + n * s) L wr (fun a => F a || G a) B) := by
  obtain ⟨v1, s1⟩ := b.at hf
  obtain ⟨v2, s2⟩ := b.at hg
  have o := Mgr.orM_ops b.wf v1 v2 (F := fun a => F a || G a) (fun a => by rw [s1, s2]) (hs M b.nn b.pl)
  rw [b.nn] at o
  have := o.len
  have := b.cost
  exact (Or_ok f g R (by unfold big; omega)).mono (fun e w' h => OpQ.of b o (Nat.le_refl _) h)
theorem XorQ (R : Rep wr p M L) (b : Qk n c M B) (hf : (f, F) ∈ B) (hg : (g, G) ∈ B) {s t : Nat} (hs : PSt n (fun a => F a ^^ G a) s) (ht : PSt n G t) (hc : c + n * t + n * s ≤ 1000000000000) : Calls Tryd.prog 64 #[ptr p, .int .i64 f, .int .i64 g] wr (OpQ p n (c + n * t + n * s) L wr (fun a => F a ^^ G a) B) := by
  obtain ⟨v1, s1⟩ := b.at hf
  obtain ⟨v2, s2⟩ := b.at hg
  have o := Mgr.xorM_ops b.wf v1 v2 (F := fun a => F a ^^ G a) (fun a => by rw [s1, s2]) (hs M b.nn b.pl) (ht.not.congr (fun a => by rw [s2]) M b.nn b.pl)
  rw [b.nn] at o
  have := o.len
  have := b.cost
  exact (Xor_ok f g R (by unfold big; omega)).mono (fun e w' h => OpQ.of b o (by omega) h)
theorem IteQ (R : Rep wr p M L) (b : Qk n c M B) (hf : (f, F) ∈ B) (hg : (g, G) ∈ B) (hh : (h, H) ∈ B) {s : Nat} (hs : PSt n (fun a => if F a then G a else H a) s) (hc : c + n * s ≤ 1000000000000) :
    Calls Tryd.prog 69 #[ptr p, .int .i64 f, .int .i64 g, .int .i64 h] wr (OpQ p n (c + n * s) L wr (fun a => if F a then G a else H a) B) := by
  obtain ⟨v1, s1⟩ := b.at hf
  obtain ⟨v2, s2⟩ := b.at hg
  obtain ⟨v3, s3⟩ := b.at hh
  have o := Mgr.iteM_ops b.wf v1 v2 v3 (F := fun a => if F a then G a else H a) (fun a => by rw [s1, s2, s3]) (hs M b.nn b.pl)
  rw [b.nn] at o
  have := o.len
  have := b.cost
  exact (Ite_ok f g h R (by unfold big; omega)).mono (fun e w' h => OpQ.of b o (Nat.le_refl _) h)
theorem RestrictQ (R : Rep wr p M L) (b : Qk n c M B) (hf : (f, F) ∈ B) {v : Nat} (hv : v < n) (x : Bool) {s : Nat} (hs : PSt n (fun a => F (Mgr.upd a v x)) s) (hc : c + n * s ≤ 1000000000000) :
    Calls Tryd.prog 74 #[ptr p, .int .i64 f, .int .i64 (v : Int), .bool x] wr (OpQ p n (c + n * s) L wr (fun a => F (Mgr.upd a v x)) B) := by
  obtain ⟨v1, s1⟩ := b.at hf
  have o := Mgr.restrictM_ops b.wf v1 (v := v) (by rw [b.nn]; exact hv) x (F := fun a => F (Mgr.upd a v x)) (fun a => by rw [s1]) (hs M b.nn b.pl)
  rw [b.nn] at o
  have := o.len
  have := b.cost
  exact (Restrict_ok f (v : Int) x R (by unfold big; omega)).mono (fun e w' h => OpQ.of b o (Nat.le_refl _) h)
theorem VarQ (R : Rep wr p M L) (b : Qk n c M B) {v : Nat} (hv : v < n) (hc : c + 1 ≤ 1000000000000) :
    Calls Tryd.prog 62 #[ptr p, .int .i64 (v : Int)] wr (OpQ p n (c + 1) L wr (fun a => a v) B) := by
  have o := Mgr.varM_ops b.wf (v := v) (by rw [b.nn]; exact hv)
  have := o.len
  have := b.cost
  exact (Var_ok (v : Int) R (by unfold big; omega)).mono (fun e w' h => OpQ.of b o (by omega) h)
theorem EvalQ (R : Rep wr p M L) (b : Qk n c M B) (hf : (f, F) ∈ B) {v : Value} {l : List Bool} (hl : Bools wr v l) :
    Calls Tryd.prog 32 #[ptr p, .int .i64 f, v] wr fun e w' => e = .returned (.bool (F (asg l))) ∧ Kp No wr w' := by
  obtain ⟨v1, s1⟩ := b.at hf
  have := Eval_ok f R hl
  have e : M.evalM f l = F (asg l) := by unfold Mgr.evalM; rw [if_pos v1, s1]
  rw [e] at this
  exact this
theorem ValidQ (R : Rep wr p M L) (b : Qk n c M B) (hf : (f, F) ∈ B) : Calls Tryd.prog 31 #[ptr p, .int .i64 f] wr fun e w' => e = .returned (.bool true) ∧ wr = w' :=
  valid_as f true R (b.at hf).1
end

end Go.Proofs.YtgglkldoclejaaaDoor
