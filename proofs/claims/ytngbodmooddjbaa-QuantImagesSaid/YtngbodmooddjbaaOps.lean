/-
  Walks: 'join' of the package bdd.
-/
import Derived.Test.YtngbodmooddjbaaW7
import Derived.Test.YtngbodmooddjbaaBdd
namespace Go.Proofs.Ytngbodmooddjbaa
namespace Mgr

/-- What an operation leaves: the answer r denotes F; what was valid is valid and denotes what it did; at most c nodes more. -/
structure OpS (M : Mgr) (F : (Nat → Bool) → Bool) (c : Nat) (M' : Mgr) (r : Int) : Prop where
  wf : M'.WF
  order : M'.order = M.order
  level : M'.level = M.level
  ok : M'.valid r = true
  sem : ∀ a, M'.sem r.toNat a = F a
  old : ∀ f, M.valid f = true → M'.valid f = true ∧ ∀ a, M'.sem f.toNat a = M.sem f.toNat a
  len : M'.nodes.length ≤ M.nodes.length + c

theorem OpS.n {M M' : Mgr} {F : (Nat → Bool) → Bool} {c : Nat} {r : Int} (o : OpS M F c M' r) : M'.n = M.n := by unfold Mgr.n; rw [o.order]
theorem OpS.lev {M M' : Mgr} {F : (Nat → Bool) → Bool} {c : Nat} {r : Int} (o : OpS M F c M' r) (v : Nat) : M'.lev v = M.lev v := by unfold Mgr.lev; rw [o.level]
theorem OpS.plain {M M' : Mgr} {F : (Nat → Bool) → Bool} {c : Nat} {r : Int} (o : OpS M F c M' r) (h : M.Plain) : M'.Plain := fun v hv => by rw [o.lev]; exact h v (o.n ▸ hv)

theorem Ext.mix {M M' : Mgr} (e : Ext M M') (d : Nat) (a b : Nat → Bool) : M'.mix d a b = M.mix d a b := by
  funext v; unfold Mgr.mix; rw [e.lev]

theorem build_cost {M : Mgr} (h : M.WF) {F : (Nat → Bool) → Bool} (hF : M.Reads 0 F) {s : Nat} (hs : M.States F s) : (build M.n M F).1.nodes.length ≤ M.nodes.length + M.n * s := by
  have sp := build_spec M.n M h (Nat.le_refl _) F (by rw [Nat.sub_self]; exact hF)
  have l := build_len h (Nat.le_refl _) (F := F) (by rw [Nat.sub_self]; exact hF)
  obtain ⟨st, h1, h2⟩ := hs
  have := size_states sp.wf sp.st s st h1 (fun d a a' e b => by rw [sp.sem, sp.sem, sp.ext.mix, sp.ext.mix]; exact h2 d a a' e b)
  rw [sp.ext.n] at this
  omega

/-- The code of the first m variables. -/
def code : Nat → (Nat → Bool) → Nat
  | 0, _ => 0
  | m + 1, a => 2 * code m a + if a m then 1 else 0
theorem code_lt : ∀ (m : Nat) (a : Nat → Bool), code m a < 2 ^ m
  | 0, _ => by simp [code]
  | m + 1, a => by have := code_lt m a; simp only [code]; rw [Nat.pow_succ]; split <;> omega
theorem code_inj : ∀ (m : Nat) (a b : Nat → Bool), code m a = code m b → ∀ v, v < m → a v = b v
  | 0, _, _, _, _, hv => by omega
  | m + 1, a, b, h, v, hv => by
    simp only [code] at h
    have h1 : code m a = code m b := by split at h <;> split at h <;> omega
    by_cases e : v = m
    · subst e
      cases ha : a v <;> cases hb : b v <;> simp [ha, hb] at h ⊢ <;> omega
    · exact code_inj m a b h1 v (by omega)

/-- Every function of n variables. -/
theorem states_any {M : Mgr} {F : (Nat → Bool) → Bool} (hF : M.Reads 0 F) : M.States F (2 ^ M.n) := by
  refine ⟨fun _ a => code M.n a, fun _ a => code_lt _ a, fun d a a' h b => hF _ _ (fun v hv _ => ?_)⟩
  have := code_inj M.n a a' h v hv
  unfold mix; split
  · exact this
  · rfl

theorem sem_reads {M : Mgr} (h : M.WF) {f : Nat} (hf : M.stored f) : M.Reads 0 (M.sem f) := fun a b hab => sem_agree h _ f hf (Nat.le_refl _) a b (fun v hv _ => hab v hv (by omega))

/-- The answer of a build, shown. -/
theorem show_ops {M : Mgr} (h : M.WF) {B : Mgr × Nat} {F : (Nat → Bool) → Bool} {c : Nat} (wf : B.1.WF) (e : Ext M B.1) (st : B.1.stored B.2) (sem : ∀ a, B.1.sem B.2 a = F a) (len : B.1.nodes.length ≤ M.nodes.length + c) :
    OpS M F c (B.1.show B.2) (B.2 : Int) := by
  have hlt : B.2 < B.1.shown.length := by rw [wf.sh]; exact B.1.stored_lt wf st
  refine ⟨show_wf wf st, e.order, e.level, ?_, fun a => ?_, fun f hf => ⟨?_, fun a => ?_⟩, len⟩
  · unfold valid; rw [Int.toNat_natCast, vis_show _ _ _ hlt]; simp
  · rw [Int.toNat_natCast, show_sem]; exact sem a
  · unfold valid at hf ⊢
    simp only [Bool.and_eq_true, decide_eq_true_eq] at hf ⊢
    refine ⟨hf.1, ?_⟩
    rw [vis_show _ _ _ hlt, e.vis, hf.2]; simp
  · obtain ⟨k, rfl, sk, _⟩ := valid_nat h hf
    rw [Int.toNat_natCast, show_sem, e.sem h sk]

theorem iteM_ops {M : Mgr} (h : M.WF) {f g k : Int} (hf : M.valid f = true) (hg : M.valid g = true) (hk : M.valid k = true) {F : (Nat → Bool) → Bool}
    (hF : ∀ a, F a = if M.sem f.toNat a then M.sem g.toNat a else M.sem k.toNat a) {s : Nat} (hs : M.States F s) : OpS M F (M.n * s) (M.iteM f g k).1 (M.iteM f g k).2 := by
  have e : M.iteM f g k = _ := if_pos ⟨hf, hg, hk⟩
  obtain ⟨f, rfl, sf, _⟩ := valid_nat h hf
  obtain ⟨g, rfl, sg, _⟩ := valid_nat h hg
  obtain ⟨k, rfl, sk, _⟩ := valid_nat h hk
  rw [e]
  simp only [Int.toNat_natCast] at hF ⊢
  have eF : F = iteF M f g k := funext hF
  have hr : M.Reads (M.n - M.n) (iteF M f g k) := iteF_reads h sf sg sk (by omega) (by omega) (by omega)
  have sp := build_spec M.n M h (Nat.le_refl _) _ hr
  rw [eF] at hs ⊢
  exact show_ops h sp.wf sp.ext sp.st sp.sem (build_cost h (by rw [Nat.sub_self] at hr; exact hr) hs)

theorem valid_zero {M : Mgr} (h : M.WF) : M.valid 0 = true := by unfold valid; simp [h.sh0]
theorem valid_one {M : Mgr} (h : M.WF) : M.valid 1 = true := by unfold valid; simp [h.sh1]

theorem notM_ops {M : Mgr} (h : M.WF) {f : Int} (hf : M.valid f = true) {F : (Nat → Bool) → Bool} (hF : ∀ a, F a = !M.sem f.toNat a) {s : Nat} (hs : M.States F s) : OpS M F (M.n * s) (M.notM f).1 (M.notM f).2 :=
  iteM_ops h hf (valid_zero h) (valid_one h) (fun a => by rw [hF]; cases M.sem f.toNat a <;> simp) hs
theorem andM_ops {M : Mgr} (h : M.WF) {f g : Int} (hf : M.valid f = true) (hg : M.valid g = true) {F : (Nat → Bool) → Bool} (hF : ∀ a, F a = (M.sem f.toNat a && M.sem g.toNat a)) {s : Nat} (hs : M.States F s) :
    OpS M F (M.n * s) (M.andM f g).1 (M.andM f g).2 :=
  iteM_ops h hf hg (valid_zero h) (fun a => by rw [hF]; cases M.sem f.toNat a <;> simp) hs
theorem orM_ops {M : Mgr} (h : M.WF) {f g : Int} (hf : M.valid f = true) (hg : M.valid g = true) {F : (Nat → Bool) → Bool} (hF : ∀ a, F a = (M.sem f.toNat a || M.sem g.toNat a)) {s : Nat} (hs : M.States F s) :
    OpS M F (M.n * s) (M.orM f g).1 (M.orM f g).2 :=
  iteM_ops h hf (valid_one h) hg (fun a => by rw [hF]; cases M.sem f.toNat a <;> simp) hs

theorem xorM_ops {M : Mgr} (h : M.WF) {f g : Int} (hf : M.valid f = true) (hg : M.valid g = true) {F : (Nat → Bool) → Bool} (hF : ∀ a, F a = (M.sem f.toNat a ^^ M.sem g.toNat a)) {s t : Nat} (hs : M.States F s)
    (ht : M.States (fun a => !M.sem g.toNat a) t) : OpS M F (M.n * t + M.n * s) (M.xorM f g).1 (M.xorM f g).2 := by
  have e : M.xorM f g = _ := if_pos ⟨hf, hg⟩
  obtain ⟨f, rfl, sf, _⟩ := valid_nat h hf
  obtain ⟨g, rfl, sg, _⟩ := valid_nat h hg
  rw [e]
  simp only [Int.toNat_natCast] at hF ht ⊢
  have s0 : M.stored 0 := .inl (by omega)
  have s1 : M.stored 1 := .inl (by omega)
  have hr : M.Reads (M.n - M.n) (iteF M g 0 1) := iteF_reads h sg s0 s1 (by omega) (by omega) (by omega)
  have eg : iteF M g 0 1 = fun a => !M.sem g a := by funext a; unfold iteF; cases M.sem g a <;> simp
  have sp := build_spec M.n M h (Nat.le_refl _) _ hr
  have c1 := build_cost h (by rw [Nat.sub_self] at hr; exact hr) (by rw [eg]; exact ht)
  generalize build M.n M (iteF M g 0 1) = b at *
  have hr2 : b.1.Reads (b.1.n - b.1.n) (iteF b.1 f b.2 g) := iteF_reads sp.wf (sp.ext.stored sf) sp.st (sp.ext.stored sg) (by omega) (by omega) (by omega)
  have sq := build_spec b.1.n b.1 sp.wf (Nat.le_refl _) _ hr2
  have eF : iteF b.1 f b.2 g = F := by
    funext a
    rw [hF]
    unfold iteF
    rw [sp.ext.sem h sf, sp.ext.sem h sg, sp.sem, eg]
    show (if M.sem f a = true then !M.sem g a else M.sem g a) = _
    cases M.sem f a <;> cases M.sem g a <;> rfl
  have c2 := build_cost sp.wf (s := s) (by rw [Nat.sub_self] at hr2; exact hr2) (by
    rw [eF]
    obtain ⟨st, h1, h2⟩ := hs
    exact ⟨st, h1, fun d a a' e b => by rw [sp.ext.mix, sp.ext.mix]; exact h2 d a a' e b⟩)
  rw [sp.ext.n] at sq c2
  generalize build M.n b.1 (iteF b.1 f b.2 g) = c at *
  exact show_ops h sq.wf (sp.ext.trans sq.ext) sq.st (fun a => by rw [sq.sem, eF]) (by omega)

theorem varM_ops {M : Mgr} (h : M.WF) {v : Nat} (hv : v < M.n) : OpS M (fun a => a v) 1 (M.varM v).1 (M.varM v).2 := by
  have e : M.varM (v : Int) = _ := if_pos ⟨by omega, by omega⟩
  rw [e]
  simp only [Int.toNat_natCast]
  have sp := put_spec h hv (.inl (by omega)) (.inl (by omega)) (lev_lt_const h hv (f := 0) (by omega)) (lev_lt_const h hv (f := 1) (by omega))
  exact show_ops h sp.wf sp.ext sp.st (fun a => by rw [sp.sem]; simp) sp.len

/-- Equal functions, equal Refs. -/
theorem valid_canon {M : Mgr} (h : M.WF) {f g : Int} (hf : M.valid f = true) (hg : M.valid g = true) (e : ∀ a, M.sem f.toNat a = M.sem g.toNat a) : f = g := by
  obtain ⟨f, rfl, sf, _⟩ := valid_nat h hf
  obtain ⟨g, rfl, sg, _⟩ := valid_nat h hg
  simp only [Int.toNat_natCast] at e
  rw [canon h sf sg e]

end Mgr
end Go.Proofs.Ytngbodmooddjbaa

namespace Go.Proofs.Ytngbodmooddjbaa

/-- The function reads the variables from lo to hi - 1 alone. -/
def Rd (lo hi : Nat) (F : (Nat → Bool) → Bool) : Prop := ∀ a b : Nat → Bool, (∀ v, lo ≤ v → v < hi → a v = b v) → F a = F b
theorem Rd.mono {lo hi lo' hi' : Nat} {F : (Nat → Bool) → Bool} (h : Rd lo hi F) (h1 : lo' ≤ lo) (h2 : hi ≤ hi') : Rd lo' hi' F := fun a b hab => h a b (fun v h3 h4 => hab v (by omega) (by omega))
theorem Rd.const (lo hi : Nat) (c : Bool) : Rd lo hi (fun _ => c) := fun _ _ _ => rfl
theorem Rd.var (v : Nat) : Rd v (v + 1) (fun a => a v) := fun _ _ h => h v (by omega) (by omega)
theorem Rd.not {lo hi : Nat} {F : (Nat → Bool) → Bool} (h : Rd lo hi F) : Rd lo hi (fun a => !F a) := fun a b hab => by show (!F a) = (!F b); rw [h a b hab]
theorem Rd.op {lo hi : Nat} {F G : (Nat → Bool) → Bool} (op : Bool → Bool → Bool) (h : Rd lo hi F) (g : Rd lo hi G) : Rd lo hi (fun a => op (F a) (G a)) := fun a b hab => by show op (F a) (G a) = op (F b) (G b); rw [h a b hab, g a b hab]

/-- In every manager of n variables in the plain order F has at most s cofactors a level. -/
def PSt (n : Nat) (F : (Nat → Bool) → Bool) (s : Nat) : Prop := ∀ M : Mgr, M.n = n → M.Plain → M.States F s

theorem PSt.mono {n : Nat} {F : (Nat → Bool) → Bool} {s t : Nat} (h : PSt n F s) (ht : s ≤ t) : PSt n F t := fun M hn hp => by
  obtain ⟨st, h1, h2⟩ := h M hn hp
  exact ⟨st, fun d a => Nat.lt_of_lt_of_le (h1 d a) ht, h2⟩
theorem PSt.congr {n : Nat} {F G : (Nat → Bool) → Bool} {s : Nat} (h : PSt n F s) (e : ∀ a, G a = F a) : PSt n G s := by
  have : G = F := funext e
  rw [this]; exact h
theorem PSt.const (n : Nat) (c : Bool) : PSt n (fun _ => c) 1 := fun _ _ _ => ⟨fun _ _ => 0, fun _ _ => Nat.lt_succ_self 0, fun _ _ _ _ _ => rfl⟩
theorem PSt.not {n : Nat} {F : (Nat → Bool) → Bool} {s : Nat} (h : PSt n F s) : PSt n (fun a => !F a) s := fun M hn hp => by
  obtain ⟨st, h1, h2⟩ := h M hn hp
  exact ⟨st, h1, fun d a a' e b => by show (!_) = (!_); rw [h2 d a a' e b]⟩
theorem PSt.op {n : Nat} {F G : (Nat → Bool) → Bool} {s t : Nat} (op : Bool → Bool → Bool) (h : PSt n F s) (g : PSt n G t) : PSt n (fun a => op (F a) (G a)) (s * t) := fun M hn hp => by
  obtain ⟨st, h1, h2⟩ := h M hn hp
  obtain ⟨su, g1, g2⟩ := g M hn hp
  refine ⟨fun d a => st d a * t + su d a, fun d a => ?_, fun d a a' e b => ?_⟩
  · have a1 := h1 d a
    have a2 := g1 d a
    show st d a * t + su d a < s * t
    have : (st d a + 1) * t ≤ s * t := Nat.mul_le_mul_right t a1
    rw [Nat.add_mul] at this
    omega
  · have a2 := g1 d a
    have a2' := g1 d a'
    have ht : 0 < t := by omega
    have e1 : (su d a + st d a * t) / t = (su d a' + st d a' * t) / t := by
      have : su d a + st d a * t = su d a' + st d a' * t := by have := e; dsimp only at this; omega
      rw [this]
    rw [Nat.add_mul_div_right _ _ ht, Nat.add_mul_div_right _ _ ht, Nat.div_eq_of_lt a2, Nat.div_eq_of_lt a2', Nat.zero_add, Nat.zero_add] at e1
    have e2 : su d a = su d a' := by have := e; dsimp only at this; rw [e1] at this; omega
    show op _ _ = op _ _
    rw [h2 d a a' e1 b, g2 d a a' e2 b]

/-- A conjunction of a function of the upper variables and one of the lower ones. -/
theorem PSt.and_above {n lo mid mid' hi : Nat} {H F : (Nat → Bool) → Bool} {s t : Nat} (hH : Rd lo mid H) (hF : Rd mid' hi F) (hm : mid ≤ mid') (hm2 : mid ≤ n) (hn : hi ≤ n) (h : PSt n H t) (f : PSt n F s) : PSt n (fun a => H a && F a) (t + s + 1) := fun M nn hp => by
  obtain ⟨st, h1, h2⟩ := h M nn hp
  obtain ⟨su, f1, f2⟩ := f M nn hp
  refine ⟨fun d a => if d ≤ mid then st d a else if H a then t + 1 + su d a else t, fun d a => ?_, fun d a a' e b => ?_⟩
  · have a1 := h1 d a
    have a2 := f1 d a
    dsimp only
    split
    · omega
    · split <;> omega
  · dsimp only at e ⊢
    by_cases hd : d ≤ mid
    · rw [if_pos hd, if_pos hd] at e
      have e1 : ∀ x, F (M.mix d x b) = F b := fun x => hF _ _ (fun v h3 h4 => by unfold Mgr.mix; rw [hp v (by omega), if_neg (by omega)])
      rw [h2 d a a' e b, e1 a, e1 a']
    · rw [if_neg hd, if_neg hd] at e
      have e1 : ∀ x, H (M.mix d x b) = H x := fun x => hH _ _ (fun v h3 h4 => by unfold Mgr.mix; rw [hp v (by omega), if_pos (by omega)])
      rw [e1 a, e1 a']
      have b1 := f1 d a
      have b2 := f1 d a'
      cases ha : H a <;> cases ha' : H a' <;> simp only [ha, ha', if_true, if_false, Bool.false_eq_true, Bool.false_and, Bool.true_and] at e ⊢
      · omega
      · omega
      · exact f2 d a a' (by omega) b
theorem PSt.or_above {n lo mid mid' hi : Nat} {H F : (Nat → Bool) → Bool} {s t : Nat} (hH : Rd lo mid H) (hF : Rd mid' hi F) (hm : mid ≤ mid') (hm2 : mid ≤ n) (hn : hi ≤ n) (h : PSt n H t) (f : PSt n F s) : PSt n (fun a => H a || F a) (t + s + 1) :=
  (PSt.and_above hH.not hF.not hm hm2 hn h.not f.not).not.congr (fun a => by cases H a <;> cases F a <;> rfl)

theorem PSt.var (n v : Nat) (hv : v < n) : PSt n (fun a => a v) 2 := fun M hn hp => by
  refine ⟨fun d a => if v < d ∧ a v = true then 1 else 0, fun d a => by dsimp only; split <;> omega, fun d a a' e b => ?_⟩
  dsimp only at e
  show M.mix d a b v = M.mix d a' b v
  unfold Mgr.mix
  rw [hp v (by omega)]
  by_cases hd : v < d
  · simp only [hd, true_and, if_true] at e ⊢
    cases ha : a v <;> cases ha' : a' v <;> simp [ha, ha'] at e ⊢
  · rw [if_neg hd, if_neg hd]

/-- A function of the first m variables. -/
theorem PSt.few {n m : Nat} {F : (Nat → Bool) → Bool} (hF : Rd 0 m F) : PSt n F (2 ^ m) := fun M _ _ => by
  refine ⟨fun _ a => Mgr.code m a, fun _ a => Mgr.code_lt _ a, fun d a a' h b => hF _ _ (fun v _ hv => ?_)⟩
  have := Mgr.code_inj m a a' h v hv
  unfold Mgr.mix; split
  · exact this
  · rfl

end Go.Proofs.Ytngbodmooddjbaa

namespace Go.Proofs.Ytngbodmooddjbaa

/-- The number whose bit i is g i, for i below k. -/
def bval (g : Nat → Bool) : Nat → Nat
  | 0 => 0
  | k + 1 => bval g k + if g k then 2 ^ k else 0
theorem bval_lt (g : Nat → Bool) : ∀ k, bval g k < 2 ^ k
  | 0 => by simp [bval]
  | k + 1 => by have := bval_lt g k; simp only [bval]; rw [Nat.pow_succ]; split <;> omega
theorem bval_congr {g h : Nat → Bool} : ∀ k, (∀ i, i < k → g i = h i) → bval g k = bval h k
  | 0, _ => rfl
  | k + 1, e => by simp only [bval]; rw [bval_congr k (fun i hi => e i (by omega)), e k (by omega)]
theorem mod_succ (x k : Nat) : x % 2 ^ (k + 1) = x % 2 ^ k + if x.testBit k then 2 ^ k else 0 := by
  rw [Nat.mod_pow_succ, Nat.testBit_eq_decide_div_mod_eq]
  have : x / 2 ^ k % 2 < 2 := Nat.mod_lt _ (by omega)
  by_cases h : x / 2 ^ k % 2 = 1
  · simp [h]
  · have h0 : x / 2 ^ k % 2 = 0 := by omega
    simp [h0]
theorem bval_testBit (x : Nat) : ∀ k, bval (fun i => x.testBit i) k = x % 2 ^ k
  | 0 => by simp [bval, Nat.mod_one]
  | k + 1 => by simp only [bval]; rw [bval_testBit x k, mod_succ]

/-- 'At least lo', bit by bit. -/
def aboveB (lo : Nat) (g : Nat → Bool) : Nat → Bool
  | 0 => true
  | k + 1 => if lo.testBit k then g k && aboveB lo g k else g k || aboveB lo g k
def belowB (hi : Nat) (g : Nat → Bool) : Nat → Bool
  | 0 => true
  | k + 1 => if hi.testBit k then !g k || belowB hi g k else !g k && belowB hi g k
theorem aboveB_eq (lo : Nat) (g : Nat → Bool) : ∀ k, aboveB lo g k = decide (lo % 2 ^ k ≤ bval g k)
  | 0 => by simp [aboveB, bval, Nat.mod_one]
  | k + 1 => by
    have ih := aboveB_eq lo g k
    have h1 := bval_lt g k
    have h2 : lo % 2 ^ k < 2 ^ k := Nat.mod_lt _ (Nat.pow_pos (by omega))
    simp only [aboveB, bval]
    rw [mod_succ, ih]
    rw [Bool.eq_iff_iff]
    by_cases hb : lo.testBit k = true <;> by_cases hg : g k = true <;> simp [hb, hg] <;> omega
theorem belowB_eq (hi : Nat) (g : Nat → Bool) : ∀ k, belowB hi g k = decide (bval g k ≤ hi % 2 ^ k)
  | 0 => by simp [belowB, bval, Nat.mod_one]
  | k + 1 => by
    have ih := belowB_eq hi g k
    have h1 := bval_lt g k
    have h2 : hi % 2 ^ k < 2 ^ k := Nat.mod_lt _ (Nat.pow_pos (by omega))
    simp only [belowB, bval]
    rw [mod_succ, ih]
    rw [Bool.eq_iff_iff]
    by_cases hb : hi.testBit k = true <;> by_cases hg : g k = true <;> simp [hb, hg] <;> omega

/-- Bits that count agree. -/
def wildB (addr mask : Nat) (g : Nat → Bool) : Nat → Bool
  | 0 => true
  | k + 1 => if mask.testBit k then wildB addr mask g k else (g k == addr.testBit k) && wildB addr mask g k
theorem wildB_iff (addr mask : Nat) (g : Nat → Bool) : ∀ k, wildB addr mask g k = true ↔ ∀ i, i < k → mask.testBit i = false → g i = addr.testBit i
  | 0 => by simp [wildB]
  | k + 1 => by
    have ih := wildB_iff addr mask g k
    simp only [wildB]
    by_cases hm : mask.testBit k
    · rw [if_pos hm, ih]
      constructor
      · intro h i hi hmi
        by_cases e : i = k
        · subst e; rw [hm] at hmi; cases hmi
        · exact h i (by omega) hmi
      · exact fun h i hi hmi => h i (by omega) hmi
    · rw [if_neg hm, Bool.and_eq_true, ih, beq_iff_eq]
      constructor
      · rintro ⟨h0, h⟩ i hi hmi
        by_cases e : i = k
        · subst e; exact h0
        · exact h i (by omega) hmi
      · exact fun h => ⟨h k (by omega) (by simpa using hm), fun i hi hmi => h i (by omega) hmi⟩

/-- The number with the bits h 0, h 1 .. h (b - 1), the first one the highest. -/
def hval (h : Nat → Bool) : Nat → Nat
  | 0 => 0
  | b + 1 => 2 * hval h b + if h b then 1 else 0
theorem hval_lt (h : Nat → Bool) : ∀ b, hval h b < 2 ^ b
  | 0 => by simp [hval]
  | b + 1 => by have := hval_lt h b; simp only [hval]; rw [Nat.pow_succ]; split <;> omega
theorem bval_low (f : Nat → Bool) : ∀ k, bval f (k + 1) = 2 * bval (fun i => f (i + 1)) k + if f 0 then 1 else 0
  | 0 => by simp [bval]
  | k + 1 => by
    have ih := bval_low f k
    have e : bval f (k + 1 + 1) = bval f (k + 1) + if f (k + 1) then 2 ^ (k + 1) else 0 := rfl
    have e2 : bval (fun i => f (i + 1)) (k + 1) = bval (fun i => f (i + 1)) k + if f (k + 1) then 2 ^ k else 0 := rfl
    rw [e, e2, ih, Nat.pow_succ]
    split <;> split <;> omega
theorem hval_eq (h : Nat → Bool) : ∀ b, hval h b = bval (fun i => h (b - 1 - i)) b
  | 0 => rfl
  | b + 1 => by
    rw [bval_low]
    simp only [hval]
    rw [hval_eq h b]
    have e : bval (fun i => h (b - 1 - i)) b = bval (fun i => h (b + 1 - 1 - (i + 1))) b := bval_congr b (fun i hi => by congr 1; omega)
    rw [e]
    rfl

end Go.Proofs.Ytngbodmooddjbaa

namespace Go.Proofs.Ytngbodmooddjbaa
open Go.RowKit

namespace Mgr
/-- 'join'. -/
def joinM (M : Mgr) (v lo hi : Nat) : Mgr × Nat :=
  if M.lev v < M.depth lo ∧ M.lev v < M.depth hi then M.put v lo hi
  else build M.n (M.put v 0 1).1 (iteF (M.put v 0 1).1 (M.put v 0 1).2 hi lo)

def joinF (M : Mgr) (v lo hi : Nat) : (Nat → Bool) → Bool := fun a => if a v then M.sem hi a else M.sem lo a

structure JoinSpec (M : Mgr) (v lo hi : Nat) (M' : Mgr) (r : Nat) : Prop where
  wf : M'.WF
  ext : Ext M M'
  st : M'.stored r
  sem : ∀ a, M'.sem r a = joinF M v lo hi a

theorem join_spec {M : Mgr} (h : M.WF) {v lo hi : Nat} (hv : v < M.n) (hl : M.stored lo) (hh : M.stored hi) : JoinSpec M v lo hi (M.joinM v lo hi).1 (M.joinM v lo hi).2 := by
  unfold joinM
  by_cases c : M.lev v < M.depth lo ∧ M.lev v < M.depth hi
  · rw [if_pos c]
    have s := put_spec h hv hl hh c.1 c.2
    exact ⟨s.wf, s.ext, s.st, s.sem⟩
  · rw [if_neg c]
    have s := put_spec h hv (.inl (by omega)) (.inl (by omega)) (lev_lt_const h hv (f := 0) (by omega)) (lev_lt_const h hv (f := 1) (by omega))
    generalize M.put v 0 1 = b at *
    have hr : b.1.Reads (b.1.n - M.n) (iteF b.1 b.2 hi lo) := iteF_reads s.wf s.st (s.ext.stored hh) (s.ext.stored hl) (by rw [s.ext.n]; omega) (by rw [s.ext.n]; omega) (by rw [s.ext.n]; omega)
    have sp := build_spec M.n b.1 s.wf (by rw [s.ext.n]; omega) _ hr
    refine ⟨sp.wf, s.ext.trans sp.ext, sp.st, fun a => ?_⟩
    rw [sp.sem]
    unfold iteF joinF
    rw [s.sem, s.ext.sem h hh, s.ext.sem h hl]
    cases a v <;> simp

theorem joinF_reads {M : Mgr} (h : M.WF) {v lo hi : Nat} (hl : M.stored lo) (hh : M.stored hi) (hv : v < M.n) : M.Reads 0 (joinF M v lo hi) := fun a b hab => by
  unfold joinF
  rw [hab v hv (Nat.zero_le _), sem_reads h hl a b hab, sem_reads h hh a b hab]

/-- How many nodes 'join' makes. -/
theorem join_cost {M : Mgr} (h : M.WF) {v lo hi : Nat} (hv : v < M.n) (hl : M.stored lo) (hh : M.stored hi) {s : Nat} (hs : M.States (joinF M v lo hi) s) : (M.joinM v lo hi).1.nodes.length ≤ M.nodes.length + 1 + M.n * s := by
  unfold joinM
  by_cases c : M.lev v < M.depth lo ∧ M.lev v < M.depth hi
  · rw [if_pos c]
    have := (put_spec h hv hl hh c.1 c.2).len
    omega
  · rw [if_neg c]
    have sp := put_spec h hv (.inl (by omega)) (.inl (by omega)) (lev_lt_const h hv (f := 0) (by omega)) (lev_lt_const h hv (f := 1) (by omega))
    generalize M.put v 0 1 = b at *
    have hr : b.1.Reads (b.1.n - b.1.n) (iteF b.1 b.2 hi lo) := iteF_reads sp.wf sp.st (sp.ext.stored hh) (sp.ext.stored hl) (by omega) (by omega) (by omega)
    have eF : iteF b.1 b.2 hi lo = joinF M v lo hi := by
      funext a
      unfold iteF joinF
      rw [sp.sem, sp.ext.sem h hh, sp.ext.sem h hl]
      cases a v <;> simp
    have c2 := build_cost sp.wf (s := s) (by rw [Nat.sub_self] at hr; exact hr) (by
      rw [eF]
      obtain ⟨st, h1, h2⟩ := hs
      exact ⟨st, h1, fun d a a' e b => by rw [sp.ext.mix, sp.ext.mix]; exact h2 d a a' e b⟩)
    rw [sp.ext.n] at c2
    have := sp.len
    omega
end Mgr

set_option maxRecDepth 100000 in
set_option maxHeartbeats 1000000 in
theorem join_ok {p : Nat} {M : Mgr} {L : Lay} (v lo hi : Nat) {w : World} (R : Rep w p M L) (hv : v < M.n) (hl : M.stored lo) (hh : M.stored hi) (hb : (M.joinM v lo hi).1.nodes.length ≤ big) :
    Calls Try.prog 124 #[ptr p, .int .i64 (v : Int), .int .i64 (lo : Int), .int .i64 (hi : Int)] w (Ret p L w (M.joinM v lo hi).1 (.int .i64 (M.joinM v lo hi).2)) := by
  obtain ⟨F, raw, _⟩ := R.raw
  have hvl : v < M.level.length := by rw [R.wf.len]; exact hv
  obtain ⟨bl, cl, hsl, hcl, hclm, hlc⟩ := ownsRow_nats raw.level v hvl
  have c1 := raw.c1
  rw [hsl] at c1
  unfold natV at hlc
  rw [show M.level.getD v 0 = M.lev v from rfl] at hlc
  have hm := maxLen_val
  have hle : M.level.length ≤ 9223372036854775807 := by omega
  have b1 : (v : Int) < M.level.length := by omega
  have DL := Lib.hid (fun (x : World) (k : Kp No w x) => depth_I lo (R.no k) hl)
  have DH := Lib.hid (fun (x : World) (k : Kp No w x) => depth_I hi (R.no k) hh)
  by_cases c : M.lev v < M.depth lo ∧ M.lev v < M.depth hi
  · have e : M.joinM v lo hi = M.put v lo hi := if_pos c
    rw [e] at hb ⊢
    have PUT := Lib.hid (fun (x : World) (k : Kp No w x) => node_ok v lo hi (R.no k) hv hl hh c.1 c.2 hb)
    have q1 : (M.lev v : Int) < dI M lo := by unfold dI; omega
    have q2 : (M.lev v : Int) < dI M hi := by unfold dI; omega
    have SD := Lib.hid (Sd.start R)
    clear raw hsl hcl hclm hm e c hb R hv hl hh hvl
    generalize M.level.length = nl at *
    generalize (M.lev v : Int) = lv at *
    generalize dI M lo = d1 at *
    generalize dI M hi = d2 at *
    generalize M.put v lo hi = B at *
    go_enter Try.func124, Try.ntmps124
    go_wp2_with fail
    refine (DL.out w (Kp.refl _ _)).mono ?_
    rintro e x ⟨rfl, k1, hx1⟩
    have K1 : Hid (Kp No w x) := Lib.hid (by rw [hx1]; exact Kp.drewN _)
    clear hx1
    go_wp2_with fail
    refine (DH.out x K1.out).mono ?_
    rintro e y ⟨rfl, k2, hx2⟩
    have K2 : Hid (Kp No w y) := Lib.hid (by rw [hx2]; exact K1.out.trans_no (Kp.drewN _))
    clear hx2
    go_wp2_with fail
    refine (PUT.out y K2.out).mono ?_
    intro e z hr
    obtain ⟨rfl, L3, s3⟩ := (SD.out.no K2.out).step hr
    clear hr
    go_wp2_with fail
    go_ret
    exact s3.ret _
  · have e : M.joinM v lo hi = Mgr.build M.n (M.put v 0 1).1 (iteF (M.put v 0 1).1 (M.put v 0 1).2 hi lo) := if_neg c
    have d0 := Mgr.lev_lt_const R.wf hv (f := 0) (by omega)
    have d1 := Mgr.lev_lt_const R.wf hv (f := 1) (by omega)
    have sp := Mgr.put_spec R.wf hv (.inl (by omega)) (.inl (by omega)) d0 d1
    have js := Mgr.build_spec M.n (M.put v 0 1).1 sp.wf (by rw [sp.ext.n]; omega) _ (iteF_reads (d := (M.put v 0 1).1.n - M.n) sp.wf sp.st (sp.ext.stored hh) (sp.ext.stored hl) (by rw [sp.ext.n]; omega) (by rw [sp.ext.n]; omega) (by rw [sp.ext.n]; omega))
    rw [e] at hb ⊢
    have PUT := Lib.hid (fun (x : World) (k : Kp No w x) => node_ok v 0 1 (R.no k) hv (.inl (by omega)) (.inl (by omega)) d0 d1 (Nat.le_trans js.ext.len hb))
    have ITE : Hid (∀ (x : World) (L' : Lay), Rep x p (M.put v 0 1).1 L' → Calls Try.prog 102 #[ptr p, .int .i64 ((M.put v 0 1).2 : Int), .int .i64 (hi : Int), .int .i64 (lo : Int)] x (Ret p L' x (Mgr.build M.n (M.put v 0 1).1 (iteF (M.put v 0 1).1 (M.put v 0 1).2 hi lo)).1 (.int .i64 (Mgr.build M.n (M.put v 0 1).1 (iteF (M.put v 0 1).1 (M.put v 0 1).2 hi lo)).2))) := Lib.hid (fun x L' Rx => by
      have := ite_ok (M.put v 0 1).2 hi lo Rx sp.st (sp.ext.stored hh) (sp.ext.stored hl)
      rw [sp.ext.n] at this
      exact this hb)
    have SD := Lib.hid (Sd.start R)
    have HC : Hid (¬ ((M.lev v : Int) < dI M lo ∧ (M.lev v : Int) < dI M hi)) := Lib.hid (by unfold dI; omega)
    clear raw hsl hcl hclm hm e c hb R hv hl hh hvl sp js d0 d1
    generalize M.level.length = nl at *
    generalize (M.lev v : Int) = lv at *
    generalize dI M lo = d1 at *
    generalize dI M hi = d2 at *
    generalize Mgr.build M.n (M.put v 0 1).1 (iteF (M.put v 0 1).1 (M.put v 0 1).2 hi lo) = C at *
    generalize M.put v 0 1 = B at *
    by_cases q1 : lv < d1
    · have q2 : ¬ lv < d2 := fun h => HC.out ⟨q1, h⟩
      have q2' : decide (lv < d2) = false := decide_eq_false q2
      go_enter Try.func124, Try.ntmps124
      go_wp2_with fail
      refine (DL.out w (Kp.refl _ _)).mono ?_
      rintro e x ⟨rfl, k1, hx1⟩
      have K1 : Hid (Kp No w x) := Lib.hid (by rw [hx1]; exact Kp.drewN _)
      clear hx1
      go_wp2_with fail
      refine (DH.out x K1.out).mono ?_
      rintro e y ⟨rfl, k2, hx2⟩
      have K2 : Hid (Kp No w y) := Lib.hid (by rw [hx2]; exact K1.out.trans_no (Kp.drewN _))
      clear hx2
      go_wp2_with fail
      refine (PUT.out y K2.out).mono ?_
      intro e z hr
      obtain ⟨rfl, L3, s3⟩ := (SD.out.no K2.out).step hr
      clear hr
      go_wp2_with fail
      refine (ITE.out z L3 s3.rep).mono ?_
      intro e z2 hr
      obtain ⟨rfl, L4, s4⟩ := s3.step hr
      clear hr s3
      go_wp2_with fail
      go_ret
      exact s4.ret _
    · have q1' : decide (lv < d1) = false := decide_eq_false q1
      go_enter Try.func124, Try.ntmps124
      go_wp2_with fail
      refine (DL.out w (Kp.refl _ _)).mono ?_
      rintro e x ⟨rfl, k1, hx1⟩
      have K1 : Hid (Kp No w x) := Lib.hid (by rw [hx1]; exact Kp.drewN _)
      clear hx1
      go_wp2_with fail
      refine (PUT.out x K1.out).mono ?_
      intro e z hr
      obtain ⟨rfl, L3, s3⟩ := (SD.out.no K1.out).step hr
      clear hr
      go_wp2_with fail
      refine (ITE.out z L3 s3.rep).mono ?_
      intro e z2 hr
      obtain ⟨rfl, L4, s4⟩ := s3.step hr
      clear hr s3
      go_wp2_with fail
      go_ret
      exact s4.ret _

end Go.Proofs.Ytngbodmooddjbaa
