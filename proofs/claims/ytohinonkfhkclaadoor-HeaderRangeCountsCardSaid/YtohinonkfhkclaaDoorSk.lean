/-
  The state of a recursion with a memo of its own beside a manager; the plain law of products.
-/
import Derived.Test.YtohinonkfhkclaaDoorQn
namespace Go.Proofs.YtohinonkfhkclaaDoor
open Go.RowKit

/-- What a memo says goes on to hold. -/
def IOk (bs : Nat) (I : Mgr → World → Prop) : Prop := ∀ (M M' : Mgr) (w w' : World) (A : Nat → Prop), M.WF → Mgr.Ext M M' → Kp A w w' → ¬ A bs → I M w → I M' w'

/-- The manager at p, a memo at bs, blocks that stay. -/
structure Sk (w0 : World) (p : Nat) (L0 : Lay) (bs : Nat) (X : List (Nat × Obj)) (I : Mgr → World → Prop) (w : World) (M : Mgr) (L : Lay) : Prop where
  rep : Rep w p M L
  kp : Kp (fun x => L0.at p x ∨ x = bs) w0 w
  fr : Fresh (L0.at p) (L.at p) w0
  memo : I M w
  lt : bs < w.heap.size
  nb : ¬ L.at p bs
  keep : ∀ b o, (b, o) ∈ X → w.heap[b]? = some o ∧ ¬ L.at p b ∧ b ≠ bs

section
variable {w0 w w' : World} {p bs : Nat} {L0 L L' : Lay} {X : List (Nat × Obj)} {I : Mgr → World → Prop} {M M' : Mgr}
theorem Sk.no (ok : IOk bs I) (s : Sk w0 p L0 bs X I w M L) (h : Kp No w w') : Sk w0 p L0 bs X I w' M L :=
  ⟨s.rep.no h, s.kp.trans_no h, s.fr, ok M M w w' No s.rep.wf (.refl M) h (fun x => x) s.memo, Nat.lt_of_lt_of_le s.lt h.size, s.nb, fun b o hb => by
    obtain ⟨h1, h2, h3⟩ := s.keep b o hb
    exact ⟨by rw [h.block b (heap_lt h1) (fun x => x)]; exact h1, h2, h3⟩⟩
theorem Sk.step (ok : IOk bs I) {v : Value} {e : Ending} (s : Sk w0 p L0 bs X I w M L) (x : Mgr.Ext M M') (h : Ret p L w M' v e w') : e = .returned v ∧ ∃ L', Sk w0 p L0 bs X I w' M' L' := by
  obtain ⟨L', he, rep, k, f⟩ := h
  refine ⟨he, L', rep, s.kp.trans (A' := fun x => L.at p x ∨ x = bs) (fun y hy => ?_) (k.mono (fun y _ hy => .inl hy)), fun y hy => ?_, ok M M' w w' _ s.rep.wf x k s.nb s.memo, Nat.lt_of_lt_of_le s.lt k.size, fun hb => ?_, fun b o hb => ?_⟩
  · rcases hy with hy | hy
    · rcases s.fr y hy with h | h
      · exact .inl (.inl h)
      · exact .inr h
    · exact .inl (.inr hy)
  · rcases f y hy with h | h
    · exact s.fr y h
    · right; have := s.kp.size; omega
  · rcases f bs hb with h | h
    · exact s.nb h
    · have := s.lt; omega
  · obtain ⟨h1, h2, h3⟩ := s.keep b o hb
    refine ⟨by rw [k.block b (heap_lt h1) h2]; exact h1, fun hx => ?_, h3⟩
    rcases f b hx with h | h
    · exact h2 h
    · have := heap_lt h1; omega
theorem Sk.trans {X' : List (Nat × Obj)} (s : Sk w0 p L0 bs X I w M L) (t : Sk w p L bs X' I w' M' L') (hX : ∀ b o, (b, o) ∈ X → (b, o) ∈ X') : Sk w0 p L0 bs X I w' M' L' := by
  refine ⟨t.rep, s.kp.trans (A' := fun x => L.at p x ∨ x = bs) (fun x hx => ?_) t.kp, fun x hx => ?_, t.memo, t.lt, t.nb, fun b o hb => t.keep b o (hX b o hb)⟩
  · rcases hx with hx | hx
    · rcases s.fr x hx with h | h
      · exact .inl (.inl h)
      · exact .inr h
    · exact .inl (.inr hx)
  · rcases t.fr x hx with h | h
    · exact s.fr x h
    · right; have := s.kp.size; omega
/-- From here on. -/
theorem Sk.here (s : Sk w0 p L0 bs X I w M L) : Sk w p L bs X I w M L := ⟨s.rep, Kp.refl _ _, fun _ h => .inl h, s.memo, s.lt, s.nb, s.keep⟩
theorem Sk.sub {X' : List (Nat × Obj)} (s : Sk w0 p L0 bs X I w M L) (h : ∀ b o, (b, o) ∈ X' → (b, o) ∈ X) : Sk w0 p L0 bs X' I w M L := ⟨s.rep, s.kp, s.fr, s.memo, s.lt, s.nb, fun b o hb => s.keep b o (h b o hb)⟩
/-- A new block that stays. -/
theorem Sk.box (ok : IOk bs I) (s : Sk w0 p L0 bs X I w M L) (cs : Array Value) (t : TypeId) : Sk w0 p L0 bs ((w.heap.size, .cells cs t (0, 0)) :: X) I (w.alloc (.cells cs t)) M L := by
  have s' := s.no ok (Kp.alloc (.cells cs t))
  refine ⟨s'.rep, s'.kp, s'.fr, s'.memo, s'.lt, s'.nb, fun b o hb => ?_⟩
  rcases List.mem_cons.1 hb with e | hb
  · cases e
    exact ⟨heap_alloc_new _ _, fun h => by have := s.rep.lt _ h; omega, fun h => by have := s.lt; omega⟩
  · exact s'.keep b o hb
/-- The memo is updated. -/
theorem Sk.upd (s : Sk w0 p L0 bs X I w M L) (k : Kp (fun x => x = bs) w w') (m : I M w') : Sk w0 p L0 bs X I w' M L :=
  ⟨s.rep.kp k (fun y e => by rw [e]; exact s.nb), s.kp.trans (A' := fun y => y = bs) (fun y e => .inl (.inr e)) (k.mono (fun _ _ e => e)), s.fr, m, Nat.lt_of_lt_of_le s.lt k.size, s.nb, fun b o hb => by
    obtain ⟨h1, h2, h3⟩ := s.keep b o hb
    exact ⟨by rw [k.block b (heap_lt h1) h3]; exact h1, h2, h3⟩⟩
theorem Sk.cell (s : Sk w0 p L0 bs X I w M L) {b i : Nat} {cs : Array Value} {t : TypeId} {v : Value} (h : (b, .cells cs t (0, 0)) ∈ X) (hv : cs[i]? = some v) : w.cell? ⟨b, i, none⟩ = some v ∧ b < w.heap.size := by
  obtain ⟨h1, _, _⟩ := s.keep _ _ h
  exact ⟨by rw [cell_of_row _ _ _ _ _ _ h1]; exact hv, heap_lt h1⟩
end

/-! ### the plain law of products -/
def andF (M : Mgr) (f g : Nat) : Bfn := fun a => M.sem f a && M.sem g a
theorem andF_ext {M M' : Mgr} (h : M.WF) (e : Mgr.Ext M M') {f g : Nat} (hf : M.stored f) (hg : M.stored g) : andF M' f g = andF M f g := funext fun a => by unfold andF; rw [e.sem h hf, e.sem h hg]
theorem andF_reads {M : Mgr} (h : M.WF) {f g d : Nat} (hf : M.stored f) (hg : M.stored g) (df : d ≤ M.depth f) (dg : d ≤ M.depth g) : M.Reads d (andF M f g) := fun a b hab => by
  unfold andF
  rw [Mgr.sem_agree h _ f hf (Nat.le_refl _) a b (fun v hv x => hab v hv (by omega)), Mgr.sem_agree h _ g hg (Nat.le_refl _) a b (fun v hv x => hab v hv (by omega))]

namespace Mgr
theorem reads_depth {M : Mgr} (h : M.WF) {r d : Nat} (hr : M.stored r) (hR : M.Reads d (M.sem r)) (hd : d ≤ M.n) : d ≤ M.depth r := by
  rcases Nat.lt_or_ge (M.depth r) d with hlt | hge
  · exfalso
    have h2 : 2 ≤ r := by
      rcases Nat.lt_or_ge r 2 with h2 | h2
      · have := M.depth_const h2; omega
      · exact h2
    obtain ⟨v0, v1, _⟩ := node_of h hr h2
    have hdd : M.depth r = M.lev (M.nd r).1.toNat := by unfold depth; rw [if_neg (by omega)]
    refine not_indep h (fun f g hf hg e => canon h hf hg e) hr h2 (fun a => hR _ _ (fun v hv hdv => ?_))
    have : v ≠ (M.nd r).1.toNat := fun e => by subst e; omega
    rw [upd_other _ _ _ _ this, upd_other _ _ _ _ this]
  · exact hge

/-- The answer of a product. -/
structure Pro (M : Mgr) (l : List Nat) (F : Bfn) (M' : Mgr) (r : Nat) : Prop where
  ad : Adds M M' (M.ProF l F)
  st : M'.stored r
  sem : ∀ a, M'.sem r a = exQ l F a

theorem Pro.there {M : Mgr} (h : M.WF) {l : List Nat} {F : Bfn} {r : Nat} (st : M.stored r) (e : ∀ a, M.sem r a = exQ l F a) : Pro M l F M r := ⟨Adds.refl h _, st, e⟩
theorem Pro.mk' {M M' : Mgr} {l : List Nat} {F : Bfn} {r : Nat} (ad : Adds M M' (M.Cof (exQ l F))) (st : M'.stored r) (e : ∀ a, M'.sem r a = exQ l F a) : Pro M l F M' r := ⟨ad.mono (fun _ g => ProF.self M l F g), st, e⟩

/-- No quantified variable at or behind the level d. -/
theorem exQ_deep {M : Mgr} {l : List Nat} {F : Bfn} {d : Nat} (hF : M.Reads d F) (hl : ∀ v, v ∈ l → v < M.n → M.lev v < d) : exQ l F = F :=
  exQ_none (fun a b hab => hF a b (fun v hv hd => hab v (fun hvl => by have := hl v hvl hv; omega)))

section
variable {M M1 M2 : Mgr} {l : List Nat} {F : Bfn} {v r0 r1 : Nat}
theorem upd_self (a : Nat → Bool) (v : Nat) : upd a v (a v) = a := by
  funext u; unfold upd; split
  · rename_i e; rw [e]
  · rfl
theorem Pro.reads (h : M.WF) (hv : v < M.n) (hF : M.Reads (M.lev v) F) (x : Bool) : M.Reads (M.lev v + 1) (fun a => F (upd a v x)) := fun a b hab => hF _ _ (fun u hu hd => by
  by_cases e : u = v
  · subst e; rw [upd_same, upd_same]
  · rw [upd_other _ _ _ _ e, upd_other _ _ _ _ e]
    have : M.lev u ≠ M.lev v := fun q => e (lev_inj h hu hv q)
    exact hab u hu (by omega))
theorem Pro.two (h : M.WF) (hv : v < M.n) (hF : M.Reads (M.lev v) F) (p0 : Pro M l (fun a => F (upd a v false)) M1 r0) (p1 : Pro M1 l (fun a => F (upd a v true)) M2 r1) : Adds M M2 (M.ProF l F) ∧ (∀ a, M2.sem r0 a = exQ l (fun a => F (upd a v false)) a) ∧ M2.stored r0 := by
  refine ⟨(p0.ad.mono (fun G g => ProF.upd h hv hF g)).trans (p1.ad.mono (fun G g => ?_)), fun a => by rw [p1.ad.ext.sem p0.ad.wf p0.st, p0.sem], p1.ad.ext.stored p0.st⟩
  exact ProF.upd h hv hF ((ProF.ext p0.ad.ext).1 g)
/-- A variable that is not quantified. -/
theorem Pro.join (h : M.WF) (hv : v < M.n) (hF : M.Reads (M.lev v) F) (hl : v ∉ l) (p0 : Pro M l (fun a => F (upd a v false)) M1 r0) (p1 : Pro M1 l (fun a => F (upd a v true)) M2 r1) : v < M2.n ∧ Pro M l F (M2.joinM v r0 r1).1 (M2.joinM v r0 r1).2 ∧ Ext M2 (M2.joinM v r0 r1).1 := by
  obtain ⟨ad, s0, t0⟩ := Pro.two h hv hF p0 p1
  have hn : M2.n = M.n := ad.ext.n
  have hlev : ∀ u, M2.lev u = M.lev u := ad.ext.lev
  have w2 := p1.ad.wf
  have rd : ∀ x, M2.Reads (M2.lev v + 1) (exQ l fun a => F (upd a v x)) := fun x => by
    rw [hlev]; exact Reads.ext ad.ext (exQ_reads (Pro.reads h hv hF x))
  have hlv := (h.ol v hv).1
  have d0 : M2.lev v < M2.depth r0 := reads_depth w2 t0 (by rw [show M2.sem r0 = _ from funext s0]; exact rd false) (by rw [hlev]; omega)
  have d1 : M2.lev v < M2.depth r1 := reads_depth w2 p1.st (by rw [show M2.sem r1 = _ from funext p1.sem]; exact rd true) (by rw [hlev]; omega)
  have ej : M2.joinM v r0 r1 = M2.put v r0 r1 := if_pos ⟨d0, d1⟩
  have eF : joinF M2 v r0 r1 = exQ l F := by
    funext a
    unfold joinF
    rw [s0, p1.sem, exQ_free hl, exQ_free hl]
    cases hb : a v
    · simp only [Bool.false_eq_true, if_false]; rw [← hb, upd_self]
    · simp only [if_true]; rw [← hb, upd_self]
  have js := join_spec w2 (v := v) (by omega) t0 p1.st
  have pa := put_adds w2 (v := v) (by omega) t0 p1.st d0 d1
  rw [← ej] at pa
  refine ⟨by omega, ⟨ad.trans (pa.mono (fun G g => ProF.self M l F (by rw [g, eF]; exact Cof.self M _))), js.st, fun a => by rw [js.sem, eF]⟩, js.ext⟩
/-- A quantified variable. -/
theorem Pro.apply (h : M.WF) (hv : v < M.n) (hF : M.Reads (M.lev v) F) (hl : v ∈ l) (p0 : Pro M l (fun a => F (upd a v false)) M1 r0) (p1 : Pro M1 l (fun a => F (upd a v true)) M2 r1) :
    Pro M l F (build M2.n M2 (iteF M2 r0 1 r1)).1 (build M2.n M2 (iteF M2 r0 1 r1)).2 ∧ Ext M2 (build M2.n M2 (iteF M2 r0 1 r1)).1 := by
  obtain ⟨ad, s0, t0⟩ := Pro.two h hv hF p0 p1
  have w2 := p1.ad.wf
  have eF : iteF M2 r0 1 r1 = exQ l F := by
    funext a
    unfold iteF
    rw [sem_one, s0, p1.sem, exQ_split hl F a]
    cases exQ l (fun a => F (upd a v false)) a <;> rfl
  have hr : M2.Reads (M2.n - M2.n) (iteF M2 r0 1 r1) := iteF_reads w2 t0 (.inl (by omega)) p1.st (by omega) (by omega) (by omega)
  have sp := build_spec M2.n M2 w2 (Nat.le_refl _) _ hr
  have ba := build_adds w2 (Nat.le_refl _) hr
  refine ⟨⟨ad.trans (ba.mono (fun G g => ProF.self M l F ?_)), sp.st, fun a => by rw [sp.sem, eF]⟩, sp.ext⟩
  rw [eF] at g
  obtain ⟨d, a, rfl⟩ := g
  exact ⟨d, a, funext fun b => by rw [ad.ext.mix]⟩
theorem Pro.full (h : M.WF) (hv : v < M.n) (hF : M.Reads (M.lev v) F) (hl : v ∈ l) (p0 : Pro M l (fun a => F (upd a v false)) M1 1) : Pro M l F M1 1 := by
  refine ⟨p0.ad.mono (fun G g => ProF.upd h hv hF g), .inl (by omega), fun a => ?_⟩
  have := p0.sem a
  rw [sem_one] at this ⊢
  rw [exQ_split hl F a, ← this]; rfl
/-- Nothing left to quantify. -/
theorem Pro.deep {f g : Nat} (h : M.WF) (hf : M.stored f) (hg : M.stored g) (e : exQ l (andF M f g) = andF M f g) :
    Pro M l (andF M f g) (build M.n M (iteF M f g 0)).1 (build M.n M (iteF M f g 0)).2 ∧ Ext M (build M.n M (iteF M f g 0)).1 := by
  have eF : iteF M f g 0 = exQ l (andF M f g) := by
    rw [e]; funext a; unfold iteF andF; rw [sem_zero]; cases M.sem f a <;> simp
  have hr : M.Reads (M.n - M.n) (iteF M f g 0) := iteF_reads h hf hg (.inl (by omega)) (by omega) (by omega) (by omega)
  have sp := build_spec M.n M h (Nat.le_refl _) _ hr
  have ba := build_adds h (Nat.le_refl _) hr
  rw [eF] at ba
  exact ⟨Pro.mk' (by rw [eF]; exact ba) sp.st (fun a => by rw [sp.sem, eF]), sp.ext⟩
end
end Mgr

end Go.Proofs.YtohinonkfhkclaaDoor
