/-
  What the operations of a manager mean: their functions, and how many nodes they make.
-/
import Derived.Test.YtgglkldoclejaaaDoorW7
import Derived.Test.YtgglkldoclejaaaDoorCnt
namespace Go.Proofs.YtgglkldoclejaaaDoor
namespace Mgr

/-- What an operation leaves: the answer r denotes F; what was valid is valid and denotes what it did; at most c nodes more. -/
structure OpS (M : Mgr) (F : (Nat → Bool) → Bool) (c : Nat) (M' : Mgr) (r : Int) : Prop where
  wf : M'.WF
  order : M'.order = M.order
  level : M'.level = M.level
  ok : M'.valid r = true
  sem : ∀ a, M'.sem r.toNat a = F a
  old : ∀ f, M.valid f = true → M'.valid f = true ∧ ∀ a, M'.sem f.toNat a = M.sem f.toNat a
  len : M'.nodes.length ≤ M.nodes.length + c

theorem OpS.n {M M' : Mgr} {F : (Nat → Bool) → Bool} {c : Nat} {r : Int} (o : OpS M F c M' r) : M'.n = M.n := by unfold Mgr.n; rw [o.order]
theorem OpS.lev {M M' : Mgr} {F : (Nat → Bool) → Bool} {c : Nat} {r : Int} (o : OpS M F c M' r) (v : Nat) : M'.lev v = M.lev v := by unfold Mgr.lev; rw [o.level]
theorem OpS.plain {M M' : Mgr} {F : (Nat → Bool) → Bool} {c : Nat} {r : Int} (o : OpS M F c M' r) (h : M.Plain) : M'.Plain := fun v hv => by rw [o.lev]; exact h v (o.n ▸ hv)

theorem Ext.mix {M M' : Mgr} (e : Ext M M') (d : Nat) (a b : Nat → Bool) : M'.mix d a b = M.mix d a b := by
  funext v; unfold Mgr.mix; rw [e.lev]

theorem build_cost {M : Mgr} (h : M.WF) {F : (Nat → Bool) → Bool} (hF : M.Reads 0 F) {s : Nat} (hs : M.States F s) : (build M.n M F).1.nodes.length ≤ M.nodes.length + M.n * s := by
  have sp := build_spec M.n M h (Nat.le_refl _) F (by rw [Nat.sub_self]; exact hF)
  have l := build_len h (Nat.le_refl _) (F := F) (by rw [Nat.sub_self]; exact hF)
  obtain ⟨st, h1, h2⟩ := hs
  have := size_states sp.wf sp.st s st h1 (fun d a a' e b => by rw [sp.sem, sp.sem, sp.ext.mix, sp.ext.mix]; exact h2 d a a' e b)
  rw [sp.ext.n] at this
  omega

/-- The code of the first m variables. -/
def code : Nat → (Nat → Bool) → Nat
  | 0, _ => 0
  | m + 1, a => 2 * code m a + if a m then 1 else 0
theorem code_lt : ∀ (m : Nat) (a : Nat → Bool), code m a < 2 ^ m
  | 0, _ => by simp [code]
  | m + 1, a => by have := code_lt m a; simp only [code]; rw [Nat.pow_succ]; split <;> omega
theorem code_inj : ∀ (m : Nat) (a b : Nat → Bool), code m a = code m b → ∀ v, v < m → a v = b v
  | 0, _, _, _, _, hv => by omega
  | m + 1, a, b, h, v, hv => by
    simp only [code] at h
    have h1 : code m a = code m b := by split at h <;> split at h <;> omega
    by_cases e : v = m
    · subst e
      cases ha : a v <;> cases hb : b v <;> simp [ha, hb] at h ⊢ <;> omega
    · exact code_inj m a b h1 v (by omega)

/-- Every function of n variables. -/
theorem states_any {M : Mgr} {F : (Nat → Bool) → Bool} (hF : M.Reads 0 F) : M.States F (2 ^ M.n) := by
  refine ⟨fun _ a => code M.n a, fun _ a => code_lt _ a, fun d a a' h b => hF _ _ (fun v hv _ => ?_)⟩
  have := code_inj M.n a a' h v hv
  unfold mix; split
  · exact this
  · rfl

theorem sem_reads {M : Mgr} (h : M.WF) {f : Nat} (hf : M.stored f) : M.Reads 0 (M.sem f) := fun a b hab => sem_agree h _ f hf (Nat.le_refl _) a b (fun v hv _ => hab v hv (by omega))

/-- The answer of a build, shown. -/
theorem show_ops {M : Mgr} (h : M.WF) {B : Mgr × Nat} {F : (Nat → Bool) → Bool} {c : Nat} (wf : B.1.WF) (e : Ext M B.1) (st : B.1.stored B.2) (sem : ∀ a, B.1.sem B.2 a = F a) (len : B.1.nodes.length ≤ M.nodes.length + c) :
    OpS M F c (B.1.show B.2) (B.2 : Int) := by
  have hlt : B.2 < B.1.shown.length := by rw [wf.sh]; exact B.1.stored_lt wf st
  refine ⟨show_wf wf st, e.order, e.level, ?_, fun a => ?_, fun f hf => ⟨?_, fun a => ?_⟩, len⟩
  · unfold valid; rw [Int.toNat_natCast, vis_show _ _ _ hlt]; simp
  · rw [Int.toNat_natCast, show_sem]; exact sem a
  · unfold valid at hf ⊢
    simp only [Bool.and_eq_true, decide_eq_true_eq] at hf ⊢
    refine ⟨hf.1, ?_⟩
    rw [vis_show _ _ _ hlt, e.vis, hf.2]; simp
  · obtain ⟨k, rfl, sk, _⟩ := valid_nat h hf
    rw [Int.toNat_natCast, show_sem, e.sem h sk]

theorem iteM_ops {M : Mgr} (h : M.WF) {f g k : Int} (hf : M.valid f = true) (hg : M.valid g = true) (hk : M.valid k = true) {F : (Nat → Bool) → Bool}
    (hF : ∀ a, F a = if M.sem f.toNat a then M.sem g.toNat a else M.sem k.toNat a) {s : Nat} (hs : M.States F s) : OpS M F (M.n * s) (M.iteM f g k).1 (M.iteM f g k).2 := by
  have e : M.iteM f g k = _ := if_pos ⟨hf, hg, hk⟩
  obtain ⟨f, rfl, sf, _⟩ := valid_nat h hf
  obtain ⟨g, rfl, sg, _⟩ := valid_nat h hg
  obtain ⟨k, rfl, sk, _⟩ := valid_nat h hk
  rw [e]
  simp only [Int.toNat_natCast] at hF ⊢
  have eF : F = iteF M f g k := funext hF
  have hr : M.Reads (M.n - M.n) (iteF M f g k) := iteF_reads h sf sg sk (by omega) (by omega) (by omega)
  have sp := build_spec M.n M h (Nat.le_refl _) _ hr
  rw [eF] at hs ⊢
  exact show_ops h sp.wf sp.ext sp.st sp.sem (build_cost h (by rw [Nat.sub_self] at hr; exact hr) hs)

theorem valid_zero {M : Mgr} (h : M.WF) : M.valid 0 = true := by unfold valid; simp [h.sh0]
theorem valid_one {M : Mgr} (h : M.WF) : M.valid 1 = true := by unfold valid; simp [h.sh1]

theorem notM_ops {M : Mgr} (h : M.WF) {f : Int} (hf : M.valid f = true) {F : (Nat → Bool) → Bool} (hF : ∀ a, F a = !M.sem f.toNat a) {s : Nat} (hs : M.States F s) : OpS M F (M.n * s) (M.notM f).1 (M.notM f).2 :=
  iteM_ops h hf (valid_zero h) (valid_one h) (fun a => by rw [hF]; cases M.sem f.toNat a <;> simp) hs
theorem andM_ops {M : Mgr} (h : M.WF) {f g : Int} (hf : M.valid f = true) (hg : M.valid g = true) {F : (Nat → Bool) → Bool} (hF : ∀ a, F a = (M.sem f.toNat a && M.sem g.toNat a)) {s : Nat} (hs : M.States F s) :
    OpS M F (M.n * s) (M.andM f g).1 (M.andM f g).2 :=
  iteM_ops h hf hg (valid_zero h) (fun a => by rw [hF]; cases M.sem f.toNat a <;> simp) hs
theorem orM_ops {M : Mgr} (h : M.WF) {f g : Int} (hf : M.valid f = true) (hg : M.valid g = true) {F : (Nat → Bool) → Bool} (hF : ∀ a, F a = (M.sem f.toNat a || M.sem g.toNat a)) {s : Nat} (hs : M.States F s) :
    OpS M F (M.n * s) (M.orM f g).1 (M.orM f g).2 :=
  iteM_ops h hf (valid_one h) hg (fun a => by rw [hF]; cases M.sem f.toNat a <;> simp) hs

theorem xorM_ops {M : Mgr} (h : M.WF) {f g : Int} (hf : M.valid f = true) (hg : M.valid g = true) {F : (Nat → Bool) → Bool} (hF : ∀ a, F a = (M.sem f.toNat a ^^ M.sem g.toNat a)) {s t : Nat} (hs : M.States F s)
    (ht : M.States (fun a => !M.sem g.toNat a) t) : OpS M F (M.n * t + M.n * s) (M.xorM f g).1 (M.xorM f g).2 := by
  have e : M.xorM f g = _ := if_pos ⟨hf, hg⟩
  obtain ⟨f, rfl, sf, _⟩ := valid_nat h hf
  obtain ⟨g, rfl, sg, _⟩ := valid_nat h hg
  rw [e]
  simp only [Int.toNat_natCast] at hF ht ⊢
  have s0 : M.stored 0 := .inl (by omega)
  have s1 : M.stored 1 := .inl (by omega)
  have hr : M.Reads (M.n - M.n) (iteF M g 0 1) := iteF_reads h sg s0 s1 (by omega) (by omega) (by omega)
  have eg : iteF M g 0 1 = fun a => !M.sem g a := by funext a; unfold iteF; cases M.sem g a <;> simp
  have sp := build_spec M.n M h (Nat.le_refl _) _ hr
  have c1 := build_cost h (by rw [Nat.sub_self] at hr; exact hr) (by rw [eg]; exact ht)
  generalize build M.n M (iteF M g 0 1) = b at *
  have hr2 : b.1.Reads (b.1.n - b.1.n) (iteF b.1 f b.2 g) := iteF_reads sp.wf (sp.ext.stored sf) sp.st (sp.ext.stored sg) (by omega) (by omega) (by omega)
  have sq := build_spec b.1.n b.1 sp.wf (Nat.le_refl _) _ hr2
  have eF : iteF b.1 f b.2 g = F := by
    funext a
    rw [hF]
    unfold iteF
    rw [sp.ext.sem h sf, sp.ext.sem h sg, sp.sem, eg]
    show (if M.sem f a = true then !M.sem g a else M.sem g a) = _
    cases M.sem f a <;> cases M.sem g a <;> rfl
  have c2 := build_cost sp.wf (s := s) (by rw [Nat.sub_self] at hr2; exact hr2) (by
    rw [eF]
    obtain ⟨st, h1, h2⟩ := hs
    exact ⟨st, h1, fun d a a' e b => by rw [sp.ext.mix, sp.ext.mix]; exact h2 d a a' e b⟩)
  rw [sp.ext.n] at sq c2
  generalize build M.n b.1 (iteF b.1 f b.2 g) = c at *
  exact show_ops h sq.wf (sp.ext.trans sq.ext) sq.st (fun a => by rw [sq.sem, eF]) (by omega)

theorem varM_ops {M : Mgr} (h : M.WF) {v : Nat} (hv : v < M.n) : OpS M (fun a => a v) 1 (M.varM v).1 (M.varM v).2 := by
  have e : M.varM (v : Int) = _ := if_pos ⟨by omega, by omega⟩
  rw [e]
  simp only [Int.toNat_natCast]
  have sp := put_spec h hv (.inl (by omega)) (.inl (by omega)) (lev_lt_const h hv (f := 0) (by omega)) (lev_lt_const h hv (f := 1) (by omega))
  exact show_ops h sp.wf sp.ext sp.st (fun a => by rw [sp.sem]; simp) sp.len

/-- Equal functions, equal Refs. -/
theorem valid_canon {M : Mgr} (h : M.WF) {f g : Int} (hf : M.valid f = true) (hg : M.valid g = true) (e : ∀ a, M.sem f.toNat a = M.sem g.toNat a) : f = g := by
  obtain ⟨f, rfl, sf, _⟩ := valid_nat h hf
  obtain ⟨g, rfl, sg, _⟩ := valid_nat h hg
  simp only [Int.toNat_natCast] at e
  rw [canon h sf sg e]

end Mgr
end Go.Proofs.YtgglkldoclejaaaDoor
