/-
  The state of a recursion with a memo of its own beside a manager; the plain law of products.
-/
import Derived.Test.YtngbodmooddjbaaGreatQ
import Derived.Test.YtngbodmooddjbaaGreatOps
import Derived.Test.YtngbodmooddjbaaGreatOrder
import Derived.Test.YtngbodmooddjbaaGreatKeep
import Derived.Deep.CutBlock
import Derived.Deep.QuietTactic
import Derived.BigQuiet
namespace Go.Proofs.YtngbodmooddjbaaGreat

/-! ### lists of functions -/
/-- At most N functions. -/
def Listed (Φ : Bfn → Prop) (N : Nat) : Prop := ∃ e : Nat → Bfn, ∀ G, Φ G → ∃ i, i < N ∧ e i = G
theorem Listed.mono {Φ Ψ : Bfn → Prop} {N K : Nat} (h : Listed Ψ N) (i : ∀ G, Φ G → Ψ G) (k : N ≤ K) : Listed Φ K := by
  obtain ⟨e, he⟩ := h
  exact ⟨e, fun G hG => by obtain ⟨j, hj, ej⟩ := he G (i G hG); exact ⟨j, by omega, ej⟩⟩
theorem Listed.or {Φ Ψ : Bfn → Prop} {N K : Nat} (h : Listed Φ N) (g : Listed Ψ K) : Listed (fun G => Φ G ∨ Ψ G) (N + K) := by
  obtain ⟨e, he⟩ := h
  obtain ⟨d, hd⟩ := g
  refine ⟨fun i => if i < N then e i else d (i - N), fun G hG => ?_⟩
  rcases hG with hG | hG
  · obtain ⟨i, hi, rfl⟩ := he G hG
    exact ⟨i, by omega, if_pos hi⟩
  · obtain ⟨i, hi, rfl⟩ := hd G hG
    refine ⟨N + i, by omega, ?_⟩
    show (if N + i < N then _ else _) = _
    rw [if_neg (by omega), Nat.add_sub_cancel_left]
/-- Functions that a code tells apart. -/
theorem Listed.code {A : Type} {P : A → Prop} {Φ : Bfn → Prop} {N : Nat} (f : A → Bfn) (c : A → Nat) (hc : ∀ x, P x → c x < N) (same : ∀ x y, P x → P y → c x = c y → f x = f y) (h : ∀ G, Φ G → ∃ x, P x ∧ f x = G) : Listed Φ N := by
  classical
  refine ⟨fun i => if h : ∃ x, P x ∧ c x = i then f h.choose else fun _ => false, fun G hG => ?_⟩
  obtain ⟨x, px, rfl⟩ := h G hG
  refine ⟨c x, hc x px, ?_⟩
  have ex : ∃ y, P y ∧ c y = c x := ⟨x, px, rfl⟩
  show (if h : ∃ y, P y ∧ c y = c x then f h.choose else _) = _
  rw [dif_pos ex]
  exact same _ _ ex.choose_spec.1 px ex.choose_spec.2

namespace Mgr

/-- M' has what M has and new nodes of functions of Φ. -/
structure Adds (M M' : Mgr) (Φ : Bfn → Prop) : Prop where
  wf : M'.WF
  ext : Ext M M'
  new : ∀ i, M.nodes.length ≤ i → i < M'.nodes.length → M'.stored i ∧ Φ (M'.sem i)

theorem Adds.refl {M : Mgr} (h : M.WF) (Φ : Bfn → Prop) : Adds M M Φ := ⟨h, .refl M, fun i h1 h2 => by omega⟩
theorem Adds.mono {M M' : Mgr} {Φ Ψ : Bfn → Prop} (h : Adds M M' Φ) (i : ∀ G, Φ G → Ψ G) : Adds M M' Ψ := ⟨h.wf, h.ext, fun j h1 h2 => ⟨(h.new j h1 h2).1, i _ (h.new j h1 h2).2⟩⟩
theorem Adds.trans {M M' M'' : Mgr} {Φ : Bfn → Prop} (h : Adds M M' Φ) (h' : Adds M' M'' Φ) : Adds M M'' Φ :=
  ⟨h'.wf, h.ext.trans h'.ext, fun i h1 h2 => by
    rcases Nat.lt_or_ge i M'.nodes.length with hi | hi
    · obtain ⟨s, p⟩ := h.new i h1 hi
      refine ⟨h'.ext.stored s, ?_⟩
      have e : M''.sem i = M'.sem i := funext fun a => h'.ext.sem h.wf s a
      rw [e]; exact p
    · exact h'.new i hi h2⟩

theorem Adds.len {M M' : Mgr} {Φ : Bfn → Prop} {N : Nat} (h : Adds M M' Φ) (l : Listed Φ N) : M'.nodes.length ≤ M.nodes.length + N := by
  obtain ⟨e, he⟩ := l
  have ex : ∀ i, ∃ j, M.nodes.length ≤ i → i < M'.nodes.length → j < N ∧ e j = M'.sem i := fun i => by
    by_cases hi : M.nodes.length ≤ i ∧ i < M'.nodes.length
    · obtain ⟨j, hj, ej⟩ := he _ (h.new i hi.1 hi.2).2
      exact ⟨j, fun _ _ => ⟨hj, ej⟩⟩
    · exact ⟨0, fun a b => (hi ⟨a, b⟩).elim⟩
  obtain ⟨c, hc⟩ := Classical.axiomOfChoice ex
  have hnd : ((List.range (M'.nodes.length - M.nodes.length)).map (fun i => c (M.nodes.length + i))).Nodup := by
    rw [List.nodup_iff_pairwise_ne, List.pairwise_map]
    have hr : (List.range (M'.nodes.length - M.nodes.length)).Nodup := List.nodup_range
    rw [List.nodup_iff_pairwise_ne] at hr
    refine hr.imp_of_mem (fun {x y} hx hy hne q => hne ?_)
    simp only [List.mem_range] at hx hy
    obtain ⟨_, e1⟩ := hc (M.nodes.length + x) (by omega) (by omega)
    obtain ⟨_, e2⟩ := hc (M.nodes.length + y) (by omega) (by omega)
    have s1 := (h.new (M.nodes.length + x) (by omega) (by omega)).1
    have s2 := (h.new (M.nodes.length + y) (by omega) (by omega)).1
    have := canon h.wf s1 s2 (fun a => by rw [← e1, ← e2, q])
    omega
  have := nodup_length _ (List.range N) hnd (fun x hx => by
    simp only [List.mem_map, List.mem_range] at hx ⊢
    obtain ⟨i, hi, rfl⟩ := hx
    exact (hc (M.nodes.length + i) (by omega) (by omega)).1)
  simp only [List.length_map, List.length_range] at this
  omega

/-- The cofactors of F. -/
def Cof (M : Mgr) (F : Bfn) (G : Bfn) : Prop := ∃ d a, G = fun b => F (M.mix d a b)
theorem mix_zero (M : Mgr) (a b : Nat → Bool) : M.mix 0 a b = b := by funext v; unfold mix; rw [if_neg (by omega)]
theorem Cof.self (M : Mgr) (F : Bfn) : M.Cof F F := ⟨0, fun _ => false, by funext b; rw [mix_zero]⟩

theorem build_adds {k : Nat} {M : Mgr} (h : M.WF) (hk : k ≤ M.n) {F : Bfn} (hF : M.Reads (M.n - k) F) : Adds M (build k M F).1 (M.Cof F) := by
  have s := build_spec k M h hk F hF
  have hn := build_new k M h hk F hF
  refine ⟨s.wf, s.ext, fun i h1 h2 => ?_⟩
  have r := hn i h1 h2
  obtain ⟨st, _, _⟩ := Reach.spec s.wf s.st r
  obtain ⟨a, ha⟩ := Reach.cof s.wf s.st r
  refine ⟨st, (build k M F).1.depth i, a, funext fun b => ?_⟩
  rw [ha, s.sem, s.ext.mix]

theorem put_adds {M : Mgr} (h : M.WF) {v lo hi : Nat} (hv : v < M.n) (hl : M.stored lo) (hh : M.stored hi) (dl : M.lev v < M.depth lo) (dh : M.lev v < M.depth hi) :
    Adds M (M.put v lo hi).1 (fun G => G = joinF M v lo hi) := by
  have s := put_spec h hv hl hh dl dh
  refine ⟨s.wf, s.ext, fun i h1 h2 => ?_⟩
  by_cases e : lo = hi
  · have : (M.put v lo hi).1 = M := by unfold put; rw [if_pos e]
    rw [this] at h2; omega
  · have := (put_nd (v := v) h e).2.2 i h1 h2
    subst this
    exact ⟨s.st, funext s.sem⟩

theorem join_adds {M : Mgr} (h : M.WF) {v lo hi : Nat} (hv : v < M.n) (hl : M.stored lo) (hh : M.stored hi) : Adds M (M.joinM v lo hi).1 (fun G => M.Cof (joinF M v lo hi) G ∨ G = fun a => a v) := by
  unfold joinM
  by_cases c : M.lev v < M.depth lo ∧ M.lev v < M.depth hi
  · rw [if_pos c]
    exact (put_adds h hv hl hh c.1 c.2).mono (fun G e => .inl (by rw [e]; exact Cof.self M _))
  · rw [if_neg c]
    have d0 := lev_lt_const h hv (f := 0) (by omega)
    have d1 := lev_lt_const h hv (f := 1) (by omega)
    have s := put_spec h hv (.inl (by omega)) (.inl (by omega)) d0 d1
    have ad := (put_adds h hv (.inl (by omega)) (.inl (by omega)) d0 d1).mono (Ψ := fun G => M.Cof (joinF M v lo hi) G ∨ G = fun a => a v) (fun G e => .inr (by
      rw [e]; funext a; unfold joinF; rw [sem_one, sem_zero]; cases a v <;> rfl))
    generalize M.put v 0 1 = b at *
    have hr : b.1.Reads (b.1.n - M.n) (iteF b.1 b.2 hi lo) := iteF_reads s.wf s.st (s.ext.stored hh) (s.ext.stored hl) (by rw [s.ext.n]; omega) (by rw [s.ext.n]; omega) (by rw [s.ext.n]; omega)
    have eF : iteF b.1 b.2 hi lo = joinF M v lo hi := by
      funext a
      unfold iteF joinF
      rw [s.sem, s.ext.sem h hh, s.ext.sem h hl]
      cases a v <;> simp
    refine ad.trans ((build_adds s.wf (by rw [s.ext.n]; omega) hr).mono (fun G g => .inl ?_))
    rw [eF] at g
    obtain ⟨d, a, rfl⟩ := g
    exact ⟨d, a, funext fun x => by rw [s.ext.mix]⟩

end Mgr

/-! ### quantified functions -/
/-! ### the product -/
namespace Mgr
end Mgr

end Go.Proofs.YtngbodmooddjbaaGreat

namespace Go.Proofs.YtngbodmooddjbaaGreat
open Go.RowKit

/-! ### lists of variables -/
def varsB (n : Nat) (l : List Int) : Bool := l.all fun x => decide (0 ≤ x ∧ x < n)
theorem varsB_true {n : Nat} {l : List Int} : varsB n l = true ↔ ∀ k, k < l.length → 0 ≤ l.getD k 0 ∧ l.getD k 0 < n := by
  unfold varsB
  rw [List.all_eq_true]
  constructor
  · intro h k hk
    have := h (l.getD k 0) (by rw [List.getD_eq_getElem?_getD, List.getElem?_eq_getElem hk]; exact List.getElem_mem hk)
    simpa using this
  · intro h x hx
    obtain ⟨k, hk, rfl⟩ := List.getElem_of_mem hx
    have := h k hk
    rw [List.getD_eq_getElem?_getD, List.getElem?_eq_getElem hk] at this
    simpa using this
theorem varsB_bad {n : Nat} {l : List Int} {k : Nat} (hk : k < l.length) (h : ¬ (0 ≤ l.getD k 0 ∧ l.getD k 0 < n)) : varsB n l = false := by
  cases e : varsB n l
  · rfl
  · exact (h (varsB_true.1 e k hk)).elim
def VaR (w : World) (n : Nat) (l : List Int) (gk : Nat) (s : Value) (x : World) : Prop := ∃ k, k + gk = l.length ∧ s = .int .i64 (k : Int) ∧ (∀ i, i < k → 0 ≤ l.getD i 0 ∧ l.getD i 0 < n) ∧ w = x

/-! ### 'levels' -/
/-! ### 'repeats' -/
end Go.Proofs.YtngbodmooddjbaaGreat

namespace Go.Proofs.YtngbodmooddjbaaGreat
open Go.RowKit

/-- What a memo says goes on to hold. -/
def IOk (bs : Nat) (I : Mgr → World → Prop) : Prop := ∀ (M M' : Mgr) (w w' : World) (A : Nat → Prop), M.WF → Mgr.Ext M M' → Kp A w w' → ¬ A bs → I M w → I M' w'

/-- The manager at p, a memo at bs, blocks that stay. -/
structure Sk (w0 : World) (p : Nat) (L0 : Lay) (bs : Nat) (X : List (Nat × Obj)) (I : Mgr → World → Prop) (w : World) (M : Mgr) (L : Lay) : Prop where
  rep : Rep w p M L
  kp : Kp (fun x => L0.at p x ∨ x = bs) w0 w
  fr : Fresh (L0.at p) (L.at p) w0
  memo : I M w
  lt : bs < w.heap.size
  nb : ¬ L.at p bs
  keep : ∀ b o, (b, o) ∈ X → w.heap[b]? = some o ∧ ¬ L.at p b ∧ b ≠ bs

section
variable {w0 w w' : World} {p bs : Nat} {L0 L L' : Lay} {X : List (Nat × Obj)} {I : Mgr → World → Prop} {M M' : Mgr}
theorem Sk.no (ok : IOk bs I) (s : Sk w0 p L0 bs X I w M L) (h : Kp No w w') : Sk w0 p L0 bs X I w' M L :=
  ⟨s.rep.no h, s.kp.trans_no h, s.fr, ok M M w w' No s.rep.wf (.refl M) h (fun x => x) s.memo, Nat.lt_of_lt_of_le s.lt h.size, s.nb, fun b o hb => by
    obtain ⟨h1, h2, h3⟩ := s.keep b o hb
    exact ⟨by rw [h.block b (heap_lt h1) (fun x => x)]; exact h1, h2, h3⟩⟩
theorem Sk.step (ok : IOk bs I) {v : Value} {e : Ending} (s : Sk w0 p L0 bs X I w M L) (x : Mgr.Ext M M') (h : Ret p L w M' v e w') : e = .returned v ∧ ∃ L', Sk w0 p L0 bs X I w' M' L' := by
  obtain ⟨L', he, rep, k, f⟩ := h
  refine ⟨he, L', rep, s.kp.trans (A' := fun x => L.at p x ∨ x = bs) (fun y hy => ?_) (k.mono (fun y _ hy => .inl hy)), fun y hy => ?_, ok M M' w w' _ s.rep.wf x k s.nb s.memo, Nat.lt_of_lt_of_le s.lt k.size, fun hb => ?_, fun b o hb => ?_⟩
  · rcases hy with hy | hy
    · rcases s.fr y hy with h | h
      · exact .inl (.inl h)
      · exact .inr h
    · exact .inl (.inr hy)
  · rcases f y hy with h | h
    · exact s.fr y h
    · right; have := s.kp.size; omega
  · rcases f bs hb with h | h
    · exact s.nb h
    · have := s.lt; omega
  · obtain ⟨h1, h2, h3⟩ := s.keep b o hb
    refine ⟨by rw [k.block b (heap_lt h1) h2]; exact h1, fun hx => ?_, h3⟩
    rcases f b hx with h | h
    · exact h2 h
    · have := heap_lt h1; omega
theorem Sk.trans {X' : List (Nat × Obj)} (s : Sk w0 p L0 bs X I w M L) (t : Sk w p L bs X' I w' M' L') (hX : ∀ b o, (b, o) ∈ X → (b, o) ∈ X') : Sk w0 p L0 bs X I w' M' L' := by
  refine ⟨t.rep, s.kp.trans (A' := fun x => L.at p x ∨ x = bs) (fun x hx => ?_) t.kp, fun x hx => ?_, t.memo, t.lt, t.nb, fun b o hb => t.keep b o (hX b o hb)⟩
  · rcases hx with hx | hx
    · rcases s.fr x hx with h | h
      · exact .inl (.inl h)
      · exact .inr h
    · exact .inl (.inr hx)
  · rcases t.fr x hx with h | h
    · exact s.fr x h
    · right; have := s.kp.size; omega
/-- From here on. -/
theorem Sk.here (s : Sk w0 p L0 bs X I w M L) : Sk w p L bs X I w M L := ⟨s.rep, Kp.refl _ _, fun _ h => .inl h, s.memo, s.lt, s.nb, s.keep⟩
theorem Sk.sub {X' : List (Nat × Obj)} (s : Sk w0 p L0 bs X I w M L) (h : ∀ b o, (b, o) ∈ X' → (b, o) ∈ X) : Sk w0 p L0 bs X' I w M L := ⟨s.rep, s.kp, s.fr, s.memo, s.lt, s.nb, fun b o hb => s.keep b o (h b o hb)⟩
/-- A new block that stays. -/
theorem Sk.box (ok : IOk bs I) (s : Sk w0 p L0 bs X I w M L) (cs : Array Value) (t : TypeId) : Sk w0 p L0 bs ((w.heap.size, .cells cs t (0, 0)) :: X) I (w.alloc (.cells cs t)) M L := by
  have s' := s.no ok (Kp.alloc (.cells cs t))
  refine ⟨s'.rep, s'.kp, s'.fr, s'.memo, s'.lt, s'.nb, fun b o hb => ?_⟩
  rcases List.mem_cons.1 hb with e | hb
  · cases e
    exact ⟨heap_alloc_new _ _, fun h => by have := s.rep.lt _ h; omega, fun h => by have := s.lt; omega⟩
  · exact s'.keep b o hb
/-- The memo is updated. -/
theorem Sk.upd (s : Sk w0 p L0 bs X I w M L) (k : Kp (fun x => x = bs) w w') (m : I M w') : Sk w0 p L0 bs X I w' M L :=
  ⟨s.rep.kp k (fun y e => by rw [e]; exact s.nb), s.kp.trans (A' := fun y => y = bs) (fun y e => .inl (.inr e)) (k.mono (fun _ _ e => e)), s.fr, m, Nat.lt_of_lt_of_le s.lt k.size, s.nb, fun b o hb => by
    obtain ⟨h1, h2, h3⟩ := s.keep b o hb
    exact ⟨by rw [k.block b (heap_lt h1) h3]; exact h1, h2, h3⟩⟩
theorem Sk.cell (s : Sk w0 p L0 bs X I w M L) {b i : Nat} {cs : Array Value} {t : TypeId} {v : Value} (h : (b, .cells cs t (0, 0)) ∈ X) (hv : cs[i]? = some v) : w.cell? ⟨b, i, none⟩ = some v ∧ b < w.heap.size := by
  obtain ⟨h1, _, _⟩ := s.keep _ _ h
  exact ⟨by rw [cell_of_row _ _ _ _ _ _ h1]; exact hv, heap_lt h1⟩
end

/-! ### the plain law of products -/
def andF (M : Mgr) (f g : Nat) : Bfn := fun a => M.sem f a && M.sem g a
namespace Mgr
section
variable {M M1 M2 : Mgr} {l : List Nat} {F : Bfn} {v r0 r1 : Nat}
theorem upd_self (a : Nat → Bool) (v : Nat) : upd a v (a v) = a := by
  funext u; unfold upd; split
  · rename_i e; rw [e]
  · rfl
end
end Mgr

end Go.Proofs.YtngbodmooddjbaaGreat
