/-
  Truth tables: what the functions of the reference netverifyref26 return.
-/
import Derived.Test.YtdgnbbmgcgfibaaGreatDoorW7
import Derived.Test.YtdgnbbmgcgfibaaGreatDoorRep
import Derived.Deep.LoopGhost
import Derived.LoopTactic
import Derived.Maps.AppendAt
import Derived.RegionTactic
import Derived.OwnWalk
import Derived.ArgAppend
namespace Go.Proofs.YtdgnbbmgcgfibaaGreatDoor
namespace Mgr

/-- What an operation leaves: the answer r denotes F; what was valid is valid and denotes what it did; at most c nodes more. -/
structure OpS (M : Mgr) (F : (Nat → Bool) → Bool) (c : Nat) (M' : Mgr) (r : Int) : Prop where
  wf : M'.WF
  order : M'.order = M.order
  level : M'.level = M.level
  ok : M'.valid r = true
  sem : ∀ a, M'.sem r.toNat a = F a
  old : ∀ f, M.valid f = true → M'.valid f = true ∧ ∀ a, M'.sem f.toNat a = M.sem f.toNat a
  len : M'.nodes.length ≤ M.nodes.length + c

theorem OpS.n {M M' : Mgr} {F : (Nat → Bool) → Bool} {c : Nat} {r : Int} (o : OpS M F c M' r) : M'.n = M.n := by unfold Mgr.n; rw [o.order]
theorem OpS.lev {M M' : Mgr} {F : (Nat → Bool) → Bool} {c : Nat} {r : Int} (o : OpS M F c M' r) (v : Nat) : M'.lev v = M.lev v := by unfold Mgr.lev; rw [o.level]
theorem OpS.plain {M M' : Mgr} {F : (Nat → Bool) → Bool} {c : Nat} {r : Int} (o : OpS M F c M' r) (h : M.Plain) : M'.Plain := fun v hv => by rw [o.lev]; exact h v (o.n ▸ hv)

theorem Ext.mix {M M' : Mgr} (e : Ext M M') (d : Nat) (a b : Nat → Bool) : M'.mix d a b = M.mix d a b := by
  funext v; unfold Mgr.mix; rw [e.lev]

theorem build_cost {M : Mgr} (h : M.WF) {F : (Nat → Bool) → Bool} (hF : M.Reads 0 F) {s : Nat} (hs : M.States F s) : (build M.n M F).1.nodes.length ≤ M.nodes.length + M.n * s := by
  have sp := build_spec M.n M h (Nat.le_refl _) F (by rw [Nat.sub_self]; exact hF)
  have l := build_len h (Nat.le_refl _) (F := F) (by rw [Nat.sub_self]; exact hF)
  obtain ⟨st, h1, h2⟩ := hs
  have := size_states sp.wf sp.st s st h1 (fun d a a' e b => by rw [sp.sem, sp.sem, sp.ext.mix, sp.ext.mix]; exact h2 d a a' e b)
  rw [sp.ext.n] at this
  omega

/-- The code of the first m variables. -/
def code : Nat → (Nat → Bool) → Nat
  | 0, _ => 0
  | m + 1, a => 2 * code m a + if a m then 1 else 0
theorem sem_reads {M : Mgr} (h : M.WF) {f : Nat} (hf : M.stored f) : M.Reads 0 (M.sem f) := fun a b hab => sem_agree h _ f hf (Nat.le_refl _) a b (fun v hv _ => hab v hv (by omega))

/-- The answer of a build, shown. -/
theorem show_ops {M : Mgr} (h : M.WF) {B : Mgr × Nat} {F : (Nat → Bool) → Bool} {c : Nat} (wf : B.1.WF) (e : Ext M B.1) (st : B.1.stored B.2) (sem : ∀ a, B.1.sem B.2 a = F a) (len : B.1.nodes.length ≤ M.nodes.length + c) :
    OpS M F c (B.1.show B.2) (B.2 : Int) := by
  have hlt : B.2 < B.1.shown.length := by rw [wf.sh]; exact B.1.stored_lt wf st
  refine ⟨show_wf wf st, e.order, e.level, ?_, fun a => ?_, fun f hf => ⟨?_, fun a => ?_⟩, len⟩
  · unfold valid; rw [Int.toNat_natCast, vis_show _ _ _ hlt]; simp
  · rw [Int.toNat_natCast, show_sem]; exact sem a
  · unfold valid at hf ⊢
    simp only [Bool.and_eq_true, decide_eq_true_eq] at hf ⊢
    refine ⟨hf.1, ?_⟩
    rw [vis_show _ _ _ hlt, e.vis, hf.2]; simp
  · obtain ⟨k, rfl, sk, _⟩ := valid_nat h hf
    rw [Int.toNat_natCast, show_sem, e.sem h sk]

theorem iteM_ops {M : Mgr} (h : M.WF) {f g k : Int} (hf : M.valid f = true) (hg : M.valid g = true) (hk : M.valid k = true) {F : (Nat → Bool) → Bool}
    (hF : ∀ a, F a = if M.sem f.toNat a then M.sem g.toNat a else M.sem k.toNat a) {s : Nat} (hs : M.States F s) : OpS M F (M.n * s) (M.iteM f g k).1 (M.iteM f g k).2 := by
  have e : M.iteM f g k = _ := if_pos ⟨hf, hg, hk⟩
  obtain ⟨f, rfl, sf, _⟩ := valid_nat h hf
  obtain ⟨g, rfl, sg, _⟩ := valid_nat h hg
  obtain ⟨k, rfl, sk, _⟩ := valid_nat h hk
  rw [e]
  simp only [Int.toNat_natCast] at hF ⊢
  have eF : F = iteF M f g k := funext hF
  have hr : M.Reads (M.n - M.n) (iteF M f g k) := iteF_reads h sf sg sk (by omega) (by omega) (by omega)
  have sp := build_spec M.n M h (Nat.le_refl _) _ hr
  rw [eF] at hs ⊢
  exact show_ops h sp.wf sp.ext sp.st sp.sem (build_cost h (by rw [Nat.sub_self] at hr; exact hr) hs)

theorem valid_zero {M : Mgr} (h : M.WF) : M.valid 0 = true := by unfold valid; simp [h.sh0]
theorem valid_one {M : Mgr} (h : M.WF) : M.valid 1 = true := by unfold valid; simp [h.sh1]

theorem notM_ops {M : Mgr} (h : M.WF) {f : Int} (hf : M.valid f = true) {F : (Nat → Bool) → Bool} (hF : ∀ a, F a = !M.sem f.toNat a) {s : Nat} (hs : M.States F s) : OpS M F (M.n * s) (M.notM f).1 (M.notM f).2 :=
  iteM_ops h hf (valid_zero h) (valid_one h) (fun a => by rw [hF]; cases M.sem f.toNat a <;> simp) hs
theorem andM_ops {M : Mgr} (h : M.WF) {f g : Int} (hf : M.valid f = true) (hg : M.valid g = true) {F : (Nat → Bool) → Bool} (hF : ∀ a, F a = (M.sem f.toNat a && M.sem g.toNat a)) {s : Nat} (hs : M.States F s) :
    OpS M F (M.n * s) (M.andM f g).1 (M.andM f g).2 :=
  iteM_ops h hf hg (valid_zero h) (fun a => by rw [hF]; cases M.sem f.toNat a <;> simp) hs
theorem orM_ops {M : Mgr} (h : M.WF) {f g : Int} (hf : M.valid f = true) (hg : M.valid g = true) {F : (Nat → Bool) → Bool} (hF : ∀ a, F a = (M.sem f.toNat a || M.sem g.toNat a)) {s : Nat} (hs : M.States F s) :
    OpS M F (M.n * s) (M.orM f g).1 (M.orM f g).2 :=
  iteM_ops h hf (valid_one h) hg (fun a => by rw [hF]; cases M.sem f.toNat a <;> simp) hs

theorem xorM_ops {M : Mgr} (h : M.WF) {f g : Int} (hf : M.valid f = true) (hg : M.valid g = true) {F : (Nat → Bool) → Bool} (hF : ∀ a, F a = (M.sem f.toNat a ^^ M.sem g.toNat a)) {s t : Nat} (hs : M.States F s)
    (ht : M.States (fun a => !M.sem g.toNat a) t) : OpS M F (M.n * t + M.n * s) (M.xorM f g).1 (M.xorM f g).2 := by
  have e : M.xorM f g = _ := if_pos ⟨hf, hg⟩
  obtain ⟨f, rfl, sf, _⟩ := valid_nat h hf
  obtain ⟨g, rfl, sg, _⟩ := valid_nat h hg
  rw [e]
  simp only [Int.toNat_natCast] at hF ht ⊢
  have s0 : M.stored 0 := .inl (by omega)
  have s1 : M.stored 1 := .inl (by omega)
  have hr : M.Reads (M.n - M.n) (iteF M g 0 1) := iteF_reads h sg s0 s1 (by omega) (by omega) (by omega)
  have eg : iteF M g 0 1 = fun a => !M.sem g a := by funext a; unfold iteF; cases M.sem g a <;> simp
  have sp := build_spec M.n M h (Nat.le_refl _) _ hr
  have c1 := build_cost h (by rw [Nat.sub_self] at hr; exact hr) (by rw [eg]; exact ht)
  generalize build M.n M (iteF M g 0 1) = b at *
  have hr2 : b.1.Reads (b.1.n - b.1.n) (iteF b.1 f b.2 g) := iteF_reads sp.wf (sp.ext.stored sf) sp.st (sp.ext.stored sg) (by omega) (by omega) (by omega)
  have sq := build_spec b.1.n b.1 sp.wf (Nat.le_refl _) _ hr2
  have eF : iteF b.1 f b.2 g = F := by
    funext a
    rw [hF]
    unfold iteF
    rw [sp.ext.sem h sf, sp.ext.sem h sg, sp.sem, eg]
    show (if M.sem f a = true then !M.sem g a else M.sem g a) = _
    cases M.sem f a <;> cases M.sem g a <;> rfl
  have c2 := build_cost sp.wf (s := s) (by rw [Nat.sub_self] at hr2; exact hr2) (by
    rw [eF]
    obtain ⟨st, h1, h2⟩ := hs
    exact ⟨st, h1, fun d a a' e b => by rw [sp.ext.mix, sp.ext.mix]; exact h2 d a a' e b⟩)
  rw [sp.ext.n] at sq c2
  generalize build M.n b.1 (iteF b.1 f b.2 g) = c at *
  exact show_ops h sq.wf (sp.ext.trans sq.ext) sq.st (fun a => by rw [sq.sem, eF]) (by omega)

theorem varM_ops {M : Mgr} (h : M.WF) {v : Nat} (hv : v < M.n) : OpS M (fun a => a v) 1 (M.varM v).1 (M.varM v).2 := by
  have e : M.varM (v : Int) = _ := if_pos ⟨by omega, by omega⟩
  rw [e]
  simp only [Int.toNat_natCast]
  have sp := put_spec h hv (.inl (by omega)) (.inl (by omega)) (lev_lt_const h hv (f := 0) (by omega)) (lev_lt_const h hv (f := 1) (by omega))
  exact show_ops h sp.wf sp.ext sp.st (fun a => by rw [sp.sem]; simp) sp.len

/-- Equal functions, equal Refs. -/
theorem valid_canon {M : Mgr} (h : M.WF) {f g : Int} (hf : M.valid f = true) (hg : M.valid g = true) (e : ∀ a, M.sem f.toNat a = M.sem g.toNat a) : f = g := by
  obtain ⟨f, rfl, sf, _⟩ := valid_nat h hf
  obtain ⟨g, rfl, sg, _⟩ := valid_nat h hg
  simp only [Int.toNat_natCast] at e
  rw [canon h sf sg e]

end Mgr
end Go.Proofs.YtdgnbbmgcgfibaaGreatDoor

namespace Go.Proofs.YtdgnbbmgcgfibaaGreatDoor

/-- The function reads the variables from lo to hi - 1 alone. -/
def Rd (lo hi : Nat) (F : (Nat → Bool) → Bool) : Prop := ∀ a b : Nat → Bool, (∀ v, lo ≤ v → v < hi → a v = b v) → F a = F b
theorem Rd.mono {lo hi lo' hi' : Nat} {F : (Nat → Bool) → Bool} (h : Rd lo hi F) (h1 : lo' ≤ lo) (h2 : hi ≤ hi') : Rd lo' hi' F := fun a b hab => h a b (fun v h3 h4 => hab v (by omega) (by omega))
theorem Rd.const (lo hi : Nat) (c : Bool) : Rd lo hi (fun _ => c) := fun _ _ _ => rfl
theorem Rd.var (v : Nat) : Rd v (v + 1) (fun a => a v) := fun _ _ h => h v (by omega) (by omega)
theorem Rd.not {lo hi : Nat} {F : (Nat → Bool) → Bool} (h : Rd lo hi F) : Rd lo hi (fun a => !F a) := fun a b hab => by show (!F a) = (!F b); rw [h a b hab]
theorem Rd.op {lo hi : Nat} {F G : (Nat → Bool) → Bool} (op : Bool → Bool → Bool) (h : Rd lo hi F) (g : Rd lo hi G) : Rd lo hi (fun a => op (F a) (G a)) := fun a b hab => by show op (F a) (G a) = op (F b) (G b); rw [h a b hab, g a b hab]

/-- In every manager of n variables in the plain order F has at most s cofactors a level. -/
def PSt (n : Nat) (F : (Nat → Bool) → Bool) (s : Nat) : Prop := ∀ M : Mgr, M.n = n → M.Plain → M.States F s

theorem PSt.mono {n : Nat} {F : (Nat → Bool) → Bool} {s t : Nat} (h : PSt n F s) (ht : s ≤ t) : PSt n F t := fun M hn hp => by
  obtain ⟨st, h1, h2⟩ := h M hn hp
  exact ⟨st, fun d a => Nat.lt_of_lt_of_le (h1 d a) ht, h2⟩
theorem PSt.congr {n : Nat} {F G : (Nat → Bool) → Bool} {s : Nat} (h : PSt n F s) (e : ∀ a, G a = F a) : PSt n G s := by
  have : G = F := funext e
  rw [this]; exact h
theorem PSt.const (n : Nat) (c : Bool) : PSt n (fun _ => c) 1 := fun _ _ _ => ⟨fun _ _ => 0, fun _ _ => Nat.lt_succ_self 0, fun _ _ _ _ _ => rfl⟩
theorem PSt.not {n : Nat} {F : (Nat → Bool) → Bool} {s : Nat} (h : PSt n F s) : PSt n (fun a => !F a) s := fun M hn hp => by
  obtain ⟨st, h1, h2⟩ := h M hn hp
  exact ⟨st, h1, fun d a a' e b => by show (!_) = (!_); rw [h2 d a a' e b]⟩
theorem PSt.op {n : Nat} {F G : (Nat → Bool) → Bool} {s t : Nat} (op : Bool → Bool → Bool) (h : PSt n F s) (g : PSt n G t) : PSt n (fun a => op (F a) (G a)) (s * t) := fun M hn hp => by
  obtain ⟨st, h1, h2⟩ := h M hn hp
  obtain ⟨su, g1, g2⟩ := g M hn hp
  refine ⟨fun d a => st d a * t + su d a, fun d a => ?_, fun d a a' e b => ?_⟩
  · have a1 := h1 d a
    have a2 := g1 d a
    show st d a * t + su d a < s * t
    have : (st d a + 1) * t ≤ s * t := Nat.mul_le_mul_right t a1
    rw [Nat.add_mul] at this
    omega
  · have a2 := g1 d a
    have a2' := g1 d a'
    have ht : 0 < t := by omega
    have e1 : (su d a + st d a * t) / t = (su d a' + st d a' * t) / t := by
      have : su d a + st d a * t = su d a' + st d a' * t := by have := e; dsimp only at this; omega
      rw [this]
    rw [Nat.add_mul_div_right _ _ ht, Nat.add_mul_div_right _ _ ht, Nat.div_eq_of_lt a2, Nat.div_eq_of_lt a2', Nat.zero_add, Nat.zero_add] at e1
    have e2 : su d a = su d a' := by have := e; dsimp only at this; rw [e1] at this; omega
    show op _ _ = op _ _
    rw [h2 d a a' e1 b, g2 d a a' e2 b]

/-- A conjunction of a function of the upper variables and one of the lower ones. -/
theorem PSt.and_above {n lo mid mid' hi : Nat} {H F : (Nat → Bool) → Bool} {s t : Nat} (hH : Rd lo mid H) (hF : Rd mid' hi F) (hm : mid ≤ mid') (hm2 : mid ≤ n) (hn : hi ≤ n) (h : PSt n H t) (f : PSt n F s) : PSt n (fun a => H a && F a) (t + s + 1) := fun M nn hp => by
  obtain ⟨st, h1, h2⟩ := h M nn hp
  obtain ⟨su, f1, f2⟩ := f M nn hp
  refine ⟨fun d a => if d ≤ mid then st d a else if H a then t + 1 + su d a else t, fun d a => ?_, fun d a a' e b => ?_⟩
  · have a1 := h1 d a
    have a2 := f1 d a
    dsimp only
    split
    · omega
    · split <;> omega
  · dsimp only at e ⊢
    by_cases hd : d ≤ mid
    · rw [if_pos hd, if_pos hd] at e
      have e1 : ∀ x, F (M.mix d x b) = F b := fun x => hF _ _ (fun v h3 h4 => by unfold Mgr.mix; rw [hp v (by omega), if_neg (by omega)])
      rw [h2 d a a' e b, e1 a, e1 a']
    · rw [if_neg hd, if_neg hd] at e
      have e1 : ∀ x, H (M.mix d x b) = H x := fun x => hH _ _ (fun v h3 h4 => by unfold Mgr.mix; rw [hp v (by omega), if_pos (by omega)])
      rw [e1 a, e1 a']
      have b1 := f1 d a
      have b2 := f1 d a'
      cases ha : H a <;> cases ha' : H a' <;> simp only [ha, ha', if_true, if_false, Bool.false_eq_true, Bool.false_and, Bool.true_and] at e ⊢
      · omega
      · omega
      · exact f2 d a a' (by omega) b
theorem PSt.var (n v : Nat) (hv : v < n) : PSt n (fun a => a v) 2 := fun M hn hp => by
  refine ⟨fun d a => if v < d ∧ a v = true then 1 else 0, fun d a => by dsimp only; split <;> omega, fun d a a' e b => ?_⟩
  dsimp only at e
  show M.mix d a b v = M.mix d a' b v
  unfold Mgr.mix
  rw [hp v (by omega)]
  by_cases hd : v < d
  · simp only [hd, true_and, if_true] at e ⊢
    cases ha : a v <;> cases ha' : a' v <;> simp [ha, ha'] at e ⊢
  · rw [if_neg hd, if_neg hd]

end Go.Proofs.YtdgnbbmgcgfibaaGreatDoor

namespace Go.Proofs.YtdgnbbmgcgfibaaGreatDoor

/-- The number whose bit i is g i, for i below k. -/
def bval (g : Nat → Bool) : Nat → Nat
  | 0 => 0
  | k + 1 => bval g k + if g k then 2 ^ k else 0
theorem bval_lt (g : Nat → Bool) : ∀ k, bval g k < 2 ^ k
  | 0 => by simp [bval]
  | k + 1 => by have := bval_lt g k; simp only [bval]; rw [Nat.pow_succ]; split <;> omega
theorem bval_congr {g h : Nat → Bool} : ∀ k, (∀ i, i < k → g i = h i) → bval g k = bval h k
  | 0, _ => rfl
  | k + 1, e => by simp only [bval]; rw [bval_congr k (fun i hi => e i (by omega)), e k (by omega)]
theorem mod_succ (x k : Nat) : x % 2 ^ (k + 1) = x % 2 ^ k + if x.testBit k then 2 ^ k else 0 := by
  rw [Nat.mod_pow_succ, Nat.testBit_eq_decide_div_mod_eq]
  have : x / 2 ^ k % 2 < 2 := Nat.mod_lt _ (by omega)
  by_cases h : x / 2 ^ k % 2 = 1
  · simp [h]
  · have h0 : x / 2 ^ k % 2 = 0 := by omega
    simp [h0]
theorem bval_testBit (x : Nat) : ∀ k, bval (fun i => x.testBit i) k = x % 2 ^ k
  | 0 => by simp [bval, Nat.mod_one]
  | k + 1 => by simp only [bval]; rw [bval_testBit x k, mod_succ]

/-- 'At least lo', bit by bit. -/
def aboveB (lo : Nat) (g : Nat → Bool) : Nat → Bool
  | 0 => true
  | k + 1 => if lo.testBit k then g k && aboveB lo g k else g k || aboveB lo g k
def belowB (hi : Nat) (g : Nat → Bool) : Nat → Bool
  | 0 => true
  | k + 1 => if hi.testBit k then !g k || belowB hi g k else !g k && belowB hi g k
theorem aboveB_eq (lo : Nat) (g : Nat → Bool) : ∀ k, aboveB lo g k = decide (lo % 2 ^ k ≤ bval g k)
  | 0 => by simp [aboveB, bval, Nat.mod_one]
  | k + 1 => by
    have ih := aboveB_eq lo g k
    have h1 := bval_lt g k
    have h2 : lo % 2 ^ k < 2 ^ k := Nat.mod_lt _ (Nat.pow_pos (by omega))
    simp only [aboveB, bval]
    rw [mod_succ, ih]
    rw [Bool.eq_iff_iff]
    by_cases hb : lo.testBit k = true <;> by_cases hg : g k = true <;> simp [hb, hg] <;> omega
theorem belowB_eq (hi : Nat) (g : Nat → Bool) : ∀ k, belowB hi g k = decide (bval g k ≤ hi % 2 ^ k)
  | 0 => by simp [belowB, bval, Nat.mod_one]
  | k + 1 => by
    have ih := belowB_eq hi g k
    have h1 := bval_lt g k
    have h2 : hi % 2 ^ k < 2 ^ k := Nat.mod_lt _ (Nat.pow_pos (by omega))
    simp only [belowB, bval]
    rw [mod_succ, ih]
    rw [Bool.eq_iff_iff]
    by_cases hb : hi.testBit k = true <;> by_cases hg : g k = true <;> simp [hb, hg] <;> omega

/-- Bits that count agree. -/
def wildB (addr mask : Nat) (g : Nat → Bool) : Nat → Bool
  | 0 => true
  | k + 1 => if mask.testBit k then wildB addr mask g k else (g k == addr.testBit k) && wildB addr mask g k
theorem wildB_iff (addr mask : Nat) (g : Nat → Bool) : ∀ k, wildB addr mask g k = true ↔ ∀ i, i < k → mask.testBit i = false → g i = addr.testBit i
  | 0 => by simp [wildB]
  | k + 1 => by
    have ih := wildB_iff addr mask g k
    simp only [wildB]
    by_cases hm : mask.testBit k
    · rw [if_pos hm, ih]
      constructor
      · intro h i hi hmi
        by_cases e : i = k
        · subst e; rw [hm] at hmi; cases hmi
        · exact h i (by omega) hmi
      · exact fun h i hi hmi => h i (by omega) hmi
    · rw [if_neg hm, Bool.and_eq_true, ih, beq_iff_eq]
      constructor
      · rintro ⟨h0, h⟩ i hi hmi
        by_cases e : i = k
        · subst e; exact h0
        · exact h i (by omega) hmi
      · exact fun h => ⟨h k (by omega) (by simpa using hm), fun i hi hmi => h i (by omega) hmi⟩

/-- The number with the bits h 0, h 1 .. h (b - 1), the first one the highest. -/
def hval (h : Nat → Bool) : Nat → Nat
  | 0 => 0
  | b + 1 => 2 * hval h b + if h b then 1 else 0
end Go.Proofs.YtdgnbbmgcgfibaaGreatDoor

namespace Go.Proofs.YtdgnbbmgcgfibaaGreatDoor
open Go.RowKit

namespace Mgr
/-- 'join'. -/
def joinM (M : Mgr) (v lo hi : Nat) : Mgr × Nat :=
  if M.lev v < M.depth lo ∧ M.lev v < M.depth hi then M.put v lo hi
  else build M.n (M.put v 0 1).1 (iteF (M.put v 0 1).1 (M.put v 0 1).2 hi lo)

def joinF (M : Mgr) (v lo hi : Nat) : (Nat → Bool) → Bool := fun a => if a v then M.sem hi a else M.sem lo a

structure JoinSpec (M : Mgr) (v lo hi : Nat) (M' : Mgr) (r : Nat) : Prop where
  wf : M'.WF
  ext : Ext M M'
  st : M'.stored r
  sem : ∀ a, M'.sem r a = joinF M v lo hi a

theorem join_spec {M : Mgr} (h : M.WF) {v lo hi : Nat} (hv : v < M.n) (hl : M.stored lo) (hh : M.stored hi) : JoinSpec M v lo hi (M.joinM v lo hi).1 (M.joinM v lo hi).2 := by
  unfold joinM
  by_cases c : M.lev v < M.depth lo ∧ M.lev v < M.depth hi
  · rw [if_pos c]
    have s := put_spec h hv hl hh c.1 c.2
    exact ⟨s.wf, s.ext, s.st, s.sem⟩
  · rw [if_neg c]
    have s := put_spec h hv (.inl (by omega)) (.inl (by omega)) (lev_lt_const h hv (f := 0) (by omega)) (lev_lt_const h hv (f := 1) (by omega))
    generalize M.put v 0 1 = b at *
    have hr : b.1.Reads (b.1.n - M.n) (iteF b.1 b.2 hi lo) := iteF_reads s.wf s.st (s.ext.stored hh) (s.ext.stored hl) (by rw [s.ext.n]; omega) (by rw [s.ext.n]; omega) (by rw [s.ext.n]; omega)
    have sp := build_spec M.n b.1 s.wf (by rw [s.ext.n]; omega) _ hr
    refine ⟨sp.wf, s.ext.trans sp.ext, sp.st, fun a => ?_⟩
    rw [sp.sem]
    unfold iteF joinF
    rw [s.sem, s.ext.sem h hh, s.ext.sem h hl]
    cases a v <;> simp

end Mgr

set_option maxRecDepth 100000 in
set_option maxHeartbeats 1000000 in
theorem join_ok {p : Nat} {M : Mgr} {L : Lay} (v lo hi : Nat) {w : World} (R : Rep w p M L) (hv : v < M.n) (hl : M.stored lo) (hh : M.stored hi) (hb : (M.joinM v lo hi).1.nodes.length ≤ big) :
    Calls Tryz.prog 124 #[ptr p, .int .i64 (v : Int), .int .i64 (lo : Int), .int .i64 (hi : Int)] w (Ret p L w (M.joinM v lo hi).1 (.int .i64 (M.joinM v lo hi).2)) := by
  obtain ⟨F, raw, _⟩ := R.raw
  have hvl : v < M.level.length := by rw [R.wf.len]; exact hv
  obtain ⟨bl, cl, hsl, hcl, hclm, hlc⟩ := ownsRow_nats raw.level v hvl
  have c1 := raw.c1
  rw [hsl] at c1
  unfold natV at hlc
  rw [show M.level.getD v 0 = M.lev v from rfl] at hlc
  have hm := maxLen_val
  have hle : M.level.length ≤ 9223372036854775807 := by omega
  have b1 : (v : Int) < M.level.length := by omega
  have DL := Lib.hid (fun (x : World) (k : Kp No w x) => depth_I lo (R.no k) hl)
  have DH := Lib.hid (fun (x : World) (k : Kp No w x) => depth_I hi (R.no k) hh)
  by_cases c : M.lev v < M.depth lo ∧ M.lev v < M.depth hi
  · have e : M.joinM v lo hi = M.put v lo hi := if_pos c
    rw [e] at hb ⊢
    have PUT := Lib.hid (fun (x : World) (k : Kp No w x) => node_ok v lo hi (R.no k) hv hl hh c.1 c.2 hb)
    have q1 : (M.lev v : Int) < dI M lo := by unfold dI; omega
    have q2 : (M.lev v : Int) < dI M hi := by unfold dI; omega
    have SD := Lib.hid (Sd.start R)
    clear raw hsl hcl hclm hm e c hb R hv hl hh hvl
    generalize M.level.length = nl at *
    generalize (M.lev v : Int) = lv at *
    generalize dI M lo = d1 at *
    generalize dI M hi = d2 at *
    generalize M.put v lo hi = B at *
    go_enter Tryz.func124, Tryz.ntmps124
    go_wp2_with fail
    refine (DL.out w (Kp.refl _ _)).mono ?_
    rintro e x ⟨rfl, k1, hx1⟩
    have K1 : Hid (Kp No w x) := Lib.hid (by rw [hx1]; exact Kp.drewN _)
    clear hx1
    go_wp2_with fail
    refine (DH.out x K1.out).mono ?_
    rintro e y ⟨rfl, k2, hx2⟩
    have K2 : Hid (Kp No w y) := Lib.hid (by rw [hx2]; exact K1.out.trans_no (Kp.drewN _))
    clear hx2
    go_wp2_with fail
    refine (PUT.out y K2.out).mono ?_
    intro e z hr
    obtain ⟨rfl, L3, s3⟩ := (SD.out.no K2.out).step hr
    clear hr
    go_wp2_with fail
    go_ret
    exact s3.ret _
  · have e : M.joinM v lo hi = Mgr.build M.n (M.put v 0 1).1 (iteF (M.put v 0 1).1 (M.put v 0 1).2 hi lo) := if_neg c
    have d0 := Mgr.lev_lt_const R.wf hv (f := 0) (by omega)
    have d1 := Mgr.lev_lt_const R.wf hv (f := 1) (by omega)
    have sp := Mgr.put_spec R.wf hv (.inl (by omega)) (.inl (by omega)) d0 d1
    have js := Mgr.build_spec M.n (M.put v 0 1).1 sp.wf (by rw [sp.ext.n]; omega) _ (iteF_reads (d := (M.put v 0 1).1.n - M.n) sp.wf sp.st (sp.ext.stored hh) (sp.ext.stored hl) (by rw [sp.ext.n]; omega) (by rw [sp.ext.n]; omega) (by rw [sp.ext.n]; omega))
    rw [e] at hb ⊢
    have PUT := Lib.hid (fun (x : World) (k : Kp No w x) => node_ok v 0 1 (R.no k) hv (.inl (by omega)) (.inl (by omega)) d0 d1 (Nat.le_trans js.ext.len hb))
    have ITE : Hid (∀ (x : World) (L' : Lay), Rep x p (M.put v 0 1).1 L' → Calls Tryz.prog 62 #[ptr p, .int .i64 ((M.put v 0 1).2 : Int), .int .i64 (hi : Int), .int .i64 (lo : Int)] x (Ret p L' x (Mgr.build M.n (M.put v 0 1).1 (iteF (M.put v 0 1).1 (M.put v 0 1).2 hi lo)).1 (.int .i64 (Mgr.build M.n (M.put v 0 1).1 (iteF (M.put v 0 1).1 (M.put v 0 1).2 hi lo)).2))) := Lib.hid (fun x L' Rx => by
      have := ite_ok (M.put v 0 1).2 hi lo Rx sp.st (sp.ext.stored hh) (sp.ext.stored hl)
      rw [sp.ext.n] at this
      exact this hb)
    have SD := Lib.hid (Sd.start R)
    have HC : Hid (¬ ((M.lev v : Int) < dI M lo ∧ (M.lev v : Int) < dI M hi)) := Lib.hid (by unfold dI; omega)
    clear raw hsl hcl hclm hm e c hb R hv hl hh hvl sp js d0 d1
    generalize M.level.length = nl at *
    generalize (M.lev v : Int) = lv at *
    generalize dI M lo = d1 at *
    generalize dI M hi = d2 at *
    generalize Mgr.build M.n (M.put v 0 1).1 (iteF (M.put v 0 1).1 (M.put v 0 1).2 hi lo) = C at *
    generalize M.put v 0 1 = B at *
    by_cases q1 : lv < d1
    · have q2 : ¬ lv < d2 := fun h => HC.out ⟨q1, h⟩
      have q2' : decide (lv < d2) = false := decide_eq_false q2
      go_enter Tryz.func124, Tryz.ntmps124
      go_wp2_with fail
      refine (DL.out w (Kp.refl _ _)).mono ?_
      rintro e x ⟨rfl, k1, hx1⟩
      have K1 : Hid (Kp No w x) := Lib.hid (by rw [hx1]; exact Kp.drewN _)
      clear hx1
      go_wp2_with fail
      refine (DH.out x K1.out).mono ?_
      rintro e y ⟨rfl, k2, hx2⟩
      have K2 : Hid (Kp No w y) := Lib.hid (by rw [hx2]; exact K1.out.trans_no (Kp.drewN _))
      clear hx2
      go_wp2_with fail
      refine (PUT.out y K2.out).mono ?_
      intro e z hr
      obtain ⟨rfl, L3, s3⟩ := (SD.out.no K2.out).step hr
      clear hr
      go_wp2_with fail
      refine (ITE.out z L3 s3.rep).mono ?_
      intro e z2 hr
      obtain ⟨rfl, L4, s4⟩ := s3.step hr
      clear hr s3
      go_wp2_with fail
      go_ret
      exact s4.ret _
    · have q1' : decide (lv < d1) = false := decide_eq_false q1
      go_enter Tryz.func124, Tryz.ntmps124
      go_wp2_with fail
      refine (DL.out w (Kp.refl _ _)).mono ?_
      rintro e x ⟨rfl, k1, hx1⟩
      have K1 : Hid (Kp No w x) := Lib.hid (by rw [hx1]; exact Kp.drewN _)
      clear hx1
      go_wp2_with fail
      refine (PUT.out x K1.out).mono ?_
      intro e z hr
      obtain ⟨rfl, L3, s3⟩ := (SD.out.no K1.out).step hr
      clear hr
      go_wp2_with fail
      refine (ITE.out z L3 s3.rep).mono ?_
      intro e z2 hr
      obtain ⟨rfl, L4, s4⟩ := s3.step hr
      clear hr s3
      go_wp2_with fail
      go_ret
      exact s4.ret _

end Go.Proofs.YtdgnbbmgcgfibaaGreatDoor

namespace Go.Proofs.YtdgnbbmgcgfibaaGreatDoor
open Go.RowKit

def seenF (S : List Nat) : Int → Option Bool := fun x => if 0 ≤ x ∧ x.toNat ∈ S then some true else none

theorem seenF_cons (S : List Nat) (f : Nat) : (fun x : Int => if x = (f : Int) then some true else seenF S x) = seenF (f :: S) := by
  funext x
  unfold seenF
  by_cases e : x = (f : Int)
  · subst e; simp
  · rw [if_neg e]
    by_cases h0 : 0 ≤ x
    · have : x.toNat ≠ f := by omega
      simp [this]
    · simp [h0]

theorem seenF_at (S : List Nat) (f : Nat) : seenF S (f : Int) = if f ∈ S then some true else none := by
  unfold seenF; simp

theorem zeroBool (w : World) : (zeroValue 4).run Tryz.prog w = .ok (.bool false) w := by kernel_rfl

def WPost (J : World → List Nat → Prop) (bs : Nat) (st : List Nat × List Nat) (e : Ending) (w' : World) : Prop :=
  e = .returned (.tuple #[]) ∧ J w' st.2 ∧ MapAs w' bs intV Value.bool (seenF st.1)

/-- What 'walk' asks of the function that it calls. -/
structure Visits (M : Mgr) (p : Nat) (L : Lay) (bs : Nat) (fid : Nat) (caps : Array Value) (bd : Nat) (J : World → List Nat → Prop) : Prop where
  go : ∀ (w : World) (f : Int), (callFunc fid (#[.int .i64 f] ++ caps)).run Tryz.prog w = .ok (.enter fid (#[.int .i64 f] ++ caps)) w
  rep : ∀ w V, J w V → Rep w p M L
  kp : ∀ w w' V, J w V → Kp (fun k => k = bs) w w' → J w' V
  call : ∀ w V f S, J w V → M.stored f → 2 ≤ f → V.length < bd → MapAs w bs intV Value.bool (seenF S) →
    Calls Tryz.prog fid (#[.int .i64 (f : Int)] ++ caps) w (WPost J bs (S, V ++ [f]))

set_option maxRecDepth 100000 in
set_option maxHeartbeats 1000000 in
theorem walk_step {M : Mgr} {p : Nat} {L : Lay} {bs fid bd : Nat} {caps : Array Value} {J : World → List Nat → Prop} (vis : Visits M p L bs fid caps bd J) {k : Nat}
    (ih : ∀ (f : Nat) (w : World) (S V : List Nat), M.n - M.depth f < k → M.stored f → J w V → MapAs w bs intV Value.bool (seenF S) → (M.walkS k (S, V) f).2.length ≤ bd →
      Calls Tryz.prog 103 #[ptr p, .int .i64 f, .map (some bs), .func (.func fid) #[] caps] w (WPost J bs (M.walkS k (S, V) f)))
    (f : Nat) (w : World) (S V : List Nat) (hk : M.n - M.depth f < k + 1) (hf : M.stored f) (hJ : J w V) (hm : MapAs w bs intV Value.bool (seenF S)) (hb : (M.walkS (k + 1) (S, V) f).2.length ≤ bd) :
    Calls Tryz.prog 103 #[ptr p, .int .i64 f, .map (some bs), .func (.func fid) #[] caps] w (WPost J bs (M.walkS (k + 1) (S, V) f)) := by
  have IH := Lib.hid ih
  have VIS := Lib.hid vis
  clear ih vis
  by_cases h2 : f < 2
  · have e : M.walkS (k + 1) (S, V) f = (S, V) := by unfold Mgr.walkS; rw [if_pos (.inl h2)]
    rw [e]
    have POST : Hid (WPost J bs (S, V) (.returned (.tuple #[])) w) := ⟨rfl, hJ, hm⟩
    clear hm hJ e hk hf hb
    go_enter Tryz.func103, Tryz.ntmps103
    go_wp2_with (go_at_call 54; refine (constant_yes _ _ h2).mono ?_; rintro e w' ⟨rfl, rfl⟩)
    go_end0
    exact POST.out
  · have h2' : 2 ≤ f := by omega
    have hlk := hm.lookup keyRef Tryz.underlying183 zeroBool (f : Int) false
    rw [seenF_at] at hlk
    by_cases hs : f ∈ S
    · have e : M.walkS (k + 1) (S, V) f = (S, V) := by unfold Mgr.walkS; rw [if_pos (.inr hs)]
      rw [e]
      have POST : Hid (WPost J bs (S, V) (.returned (.tuple #[])) w) := ⟨rfl, hJ, hm⟩
      have lk1 : (Instr.lookup 183 (.map (some bs)) (.int .i64 f) false).run Tryz.prog w = .ok (.bool true) w := by rw [if_pos hs] at hlk; exact hlk
      clear hm hJ e hk hf hlk hb
      go_enter Tryz.func103, Tryz.ntmps103
      go_wp2_with (go_at_call 54; refine (constant_no _ _ h2').mono ?_; rintro e w' ⟨rfl, rfl⟩)
      go_end0
      exact POST.out
    · have e : M.walkS (k + 1) (S, V) f = ((M.walkS k (M.walkS k (f :: S, V) (M.nd f).2.1) (M.nd f).2.2).1, (M.walkS k (M.walkS k (f :: S, V) (M.nd f).2.1) (M.nd f).2.2).2 ++ [f]) := by
        conv => lhs; unfold Mgr.walkS
        rw [if_neg (by simp; exact ⟨by omega, hs⟩)]
      rw [e] at hb ⊢
      simp only [List.length_append, List.length_singleton] at hb
      have l1 := M.walkS_len k (M.walkS k (f :: S, V) (M.nd f).2.1) (M.nd f).2.2
      have HB1 : Hid ((M.walkS k (f :: S, V) (M.nd f).2.1).2.length ≤ bd) := Lib.hid (by omega)
      have HB2 : Hid ((M.walkS k (M.walkS k (f :: S, V) (M.nd f).2.1) (M.nd f).2.2).2.length < bd) := Lib.hid (by omega)
      have lk1 : (Instr.lookup 183 (.map (some bs)) (.int .i64 f) false).run Tryz.prog w = .ok (.bool false) w := by rw [if_neg hs] at hlk; exact hlk
      have R := VIS.out.rep w V hJ
      obtain ⟨_, _, sl, sh, _, dl, dh⟩ := Mgr.node_of R.wf hf h2'
      have q1 := Mgr.depth_le R.wf sl
      have q2 := Mgr.depth_le R.wf sh
      obtain ⟨w1, hup, hm1, hk1, _⟩ := hm.update keyRef Tryz.underlying183 (f : Int) true
      have up : (Instr.mapUpdate 183 (.map (some bs)) (.int .i64 f) (.bool true)).run Tryz.prog w = .ok () w1 := hup 0
      rw [seenF_cons] at hm1
      have J1 := VIS.out.kp w w1 V hJ hk1
      have lt := M.stored_lt R.wf hf
      have cells : ∀ (x : World) (U : List Nat), J x U → ∃ bn cn, x.cell? ⟨p, 2, none⟩ = some (.slice (some ⟨bn, 0, none⟩) M.nodes.length cn) ∧ M.nodes.length ≤ 9223372036854775807 ∧
          x.cell? ⟨bn, f * 3 + 1, none⟩ = some (.int .i64 ((M.nd f).2.1 : Int)) ∧ x.cell? ⟨bn, f * 3 + 2, none⟩ = some (.int .i64 ((M.nd f).2.2 : Int)) := by
        intro x U hx
        have Rx := VIS.out.rep x U hx
        obtain ⟨F, raw, _⟩ := Rx.raw
        obtain ⟨bn, cn, hsn, hcn, hcm, hnd⟩ := raw.node_cells Rx.wf
        obtain ⟨_, n1, n2⟩ := hnd f lt
        have c2 := raw.c2
        rw [hsn] at c2
        have := maxLen_val
        exact ⟨bn, cn, c2, by omega, n1, n2⟩
      have CELLS := Lib.hid cells
      have b1 : (f : Int) < M.nodes.length := by omega
      obtain ⟨bn, cn, c2, hle, n1, n2⟩ := cells w1 V J1
      have HJ1 := Lib.hid J1
      have HM1 := Lib.hid hm1
      have SL := Lib.hid sl
      have SH := Lib.hid sh
      have HF := Lib.hid hf
      have QL : Hid (M.n - M.depth (M.nd f).2.1 < k) := Lib.hid (by omega)
      have QH : Hid (M.n - M.depth (M.nd f).2.2 < k) := Lib.hid (by omega)
      clear hm hJ e hk hf hlk R sl sh dl dh q1 q2 hup hm1 hk1 J1 cells hs h2 hb l1
      generalize M.nodes.length = nn at *
      go_enter Tryz.func103, Tryz.ntmps103
      go_wp2_with (go_at_call 54; refine (constant_no _ _ h2').mono ?_; rintro e w' ⟨rfl, rfl⟩)
      refine (IH.out _ w1 (f :: S) V QL.out SL.out HJ1.out HM1.out HB1.out).mono ?_
      rintro e w2 ⟨rfl, J2, hm2⟩
      clear c2 n1 n2 HJ1 HM1 up lk1 HB1
      generalize hst1 : M.walkS k (f :: S, V) (M.nd f).2.1 = st1 at *
      clear hst1
      obtain ⟨bn2, cn2, c2, _, n1, n2⟩ := CELLS.out w2 _ J2
      have HJ2 := Lib.hid J2
      have HM2 := Lib.hid hm2
      clear J2 hm2
      go_wp2_with fail
      refine (IH.out _ w2 st1.1 st1.2 QH.out SH.out HJ2.out HM2.out (Nat.le_of_lt HB2.out)).mono ?_
      rintro e w3 ⟨rfl, J3, hm3⟩
      clear c2 n1 n2 HJ2 HM2
      have e12 : (st1.1, st1.2) = st1 := rfl
      rw [e12] at J3 hm3
      generalize hst2 : M.walkS k st1 (M.nd f).2.2 = st2 at *
      have HST2 := Lib.hid hst2
      clear hst2
      have HC := Lib.hid (VIS.out.call w3 st2.2 f st2.1 J3 HF.out h2' HB2.out hm3)
      have hgo := VIS.out.go w3 (f : Int)
      clear J3 hm3
      go_wp2_with fail
      refine HC.out.mono ?_
      rintro e w4 ⟨rfl, J4, hm4⟩
      have POST : Hid (WPost J bs (st2.1, st2.2 ++ [f]) (.returned (.tuple #[])) w4) := ⟨rfl, J4, hm4⟩
      clear J4 hm4 hgo
      go_wp2_with fail
      go_end0
      exact POST.out

theorem walk_ok {M : Mgr} {p : Nat} {L : Lay} {bs fid bd : Nat} {caps : Array Value} {J : World → List Nat → Prop} (vis : Visits M p L bs fid caps bd J) : ∀ (k f : Nat) (w : World) (S V : List Nat),
    M.n - M.depth f < k → M.stored f → J w V → MapAs w bs intV Value.bool (seenF S) → (M.walkS k (S, V) f).2.length ≤ bd →
    Calls Tryz.prog 103 #[ptr p, .int .i64 f, .map (some bs), .func (.func fid) #[] caps] w (WPost J bs (M.walkS k (S, V) f))
  | 0, f, w, S, V, hk, hf, hJ, hm, hb => by omega
  | k + 1, f, w, S, V, hk, hf, hJ, hm, hb => walk_step vis (fun f w S V hk hf hJ hm hb => walk_ok vis k f w S V hk hf hJ hm hb) f w S V hk hf hJ hm hb

end Go.Proofs.YtdgnbbmgcgfibaaGreatDoor

namespace Go.Proofs.YtdgnbbmgcgfibaaGreatDoor
open Go.RowKit

/-! ### Size -/
theorem seenF_nil : seenF [] = fun _ => none := by funext x; simp [seenF]

/-! ### Eval -/
/-- A slice of bools that reads as a list. -/
def Bools (w : World) (v : Value) (l : List Bool) : Prop :=
  ∃ ao c, v = .slice ao l.length c ∧ l.length ≤ maxLen ∧ (l = [] ∨ ∃ g o, ao = some ⟨g, o, none⟩ ∧ ∀ i b, l[i]? = some b → w.cell? ⟨g, o + i, none⟩ = some (.bool b))

theorem Bools.kp {A : Nat → Prop} {w w' : World} {v : Value} {l : List Bool} (h : Bools w v l) (hk : Kp A w w') (hA : ∀ g o n c, v = .slice (some ⟨g, o, none⟩) n c → ¬ A g) : Bools w' v l := by
  obtain ⟨ao, c, hv, hl, h⟩ := h
  refine ⟨ao, c, hv, hl, ?_⟩
  rcases h with h | ⟨g, o, rfl, h⟩
  · exact .inl h
  · refine .inr ⟨g, o, rfl, fun i b hi => ?_⟩
    have h0 := h i b hi
    rw [hk.cell (World.block_lt_of_cell? _ _ h0) (hA g o _ _ hv)]
    exact h0
theorem Bools.no {w w' : World} {v : Value} {l : List Bool} (h : Bools w v l) (hk : Kp No w w') : Bools w' v l := h.kp hk (fun _ _ _ _ _ x => x)

theorem Bools.of_row {w : World} {base : Nat} {v : Value} {l : List Bool} {e : TypeId} (h : w.ownsRow base e 1 v l.length (l.map .bool)) : Bools w v l := by
  rcases h.2 with ⟨rfl, h0⟩ | ⟨g, cap, cur, rfl, hb, hg, h1, h2, h3, h4⟩
  · exact ⟨none, 0, by rw [h0], by rw [h0]; simp, .inl (List.eq_nil_of_length_eq_zero h0)⟩
  · by_cases e : l = []
    · exact ⟨_, _, rfl, Nat.le_trans h1 h2, .inl e⟩
    · obtain ⟨g', cap', hv, _, _, _, hc, _⟩ := ownsRow_open h (List.length_pos_iff.2 e)
      cases hv
      refine ⟨_, _, rfl, Nat.le_trans h1 h2, .inr ⟨g, 0, rfl, fun i b hi => ?_⟩⟩
      rw [Nat.zero_add]
      exact hc i _ (by simp [hi])

/-- The assignment that a list is: what it lacks is false. -/
def asg (l : List Bool) : Nat → Bool := fun v => l.getD v false

def Mgr.evalM (M : Mgr) (f : Int) (l : List Bool) : Bool := if M.valid f = true then M.sem f.toNat (asg l) else false

def EvR (M : Mgr) (n : Nat) (l : List Bool) (w : World) (k : Nat) (s : Value) (wr : World) : Prop :=
  ∃ f : Nat, s = .int .i64 (f : Int) ∧ M.stored f ∧ M.n - M.depth f < k ∧ M.sem f (asg l) = M.sem n (asg l) ∧ Kp No w wr

set_option maxRecDepth 100000 in
set_option maxHeartbeats 1000000 in
theorem Eval_ok {p : Nat} {M : Mgr} {L : Lay} (f : Int) {v : Value} {l : List Bool} {w : World} (R : Rep w p M L) (hl : Bools w v l) :
    Calls Tryz.prog 21 #[ptr p, .int .i64 f, v] w fun e w' => e = .returned (.bool (M.evalM f l)) ∧ Kp No w w' := by
  by_cases hf : M.valid f = true
  · have e : M.evalM f l = M.sem f.toNat (asg l) := if_pos hf
    rw [e]
    obtain ⟨n, rfl, sf, _⟩ := Mgr.valid_nat R.wf hf
    rw [Int.toNat_natCast]
    have SF := Lib.hid hf
    have ST := Lib.hid sf
    have BL := Lib.hid hl
    obtain ⟨ao, c, rfl, hlen, _⟩ := hl
    have hm := maxLen_val
    have hle : l.length ≤ 9223372036854775807 := by omega
    have RR := Lib.hid R
    clear hf sf e hm hlen R
    go_enter Tryz.func21, Tryz.ntmps21
    go_wp2_with fail
    refine (valid_as _ true RR.out SF.out).mono ?_
    rintro e w' ⟨rfl, rfl⟩
    go_wp2_with fail
    go_loopg [1] (M.n + 1) (fun k s wr => EvR M n l w k s wr)
    case atStart => exact ⟨n, rfl, ST.out, by omega, rfl, Kp.refl _ _⟩
    case round =>
      obtain ⟨f, rfl, sf, hk, hs, kp⟩ := hrel
      have Rw := RR.out.no kp
      by_cases h2 : f < 2
      · have HS : Hid (M.sem n (asg l) = ((f : Int) == 1)) := Lib.hid (by
          rw [← hs, M.sem_const _ _ h2, Bool.eq_iff_iff]; simp; omega)
        have KP := Lib.hid kp
        clear hs sf hk kp
        go_wp2_with fail
        refine (constant_yes _ _ h2).mono ?_
        rintro e w' ⟨rfl, rfl⟩
        go_wp2_with fail
        go_ret
        exact ⟨by rw [HS.out]; rfl, KP.out⟩
      · have h2' : 2 ≤ f := by omega
        obtain ⟨F, raw, _⟩ := Rw.raw
        obtain ⟨bn, cn, hsn, hcn, hcm, hnd⟩ := raw.node_cells Rw.wf
        have lt := M.stored_lt Rw.wf sf
        obtain ⟨n0, n1, n2⟩ := hnd f lt
        obtain ⟨v0, v1, sl, sh, _, dl, dh⟩ := Mgr.node_of Rw.wf sf h2'
        have hsem := Mgr.sem_node Rw.wf sf h2' (asg l)
        have q1 := Mgr.depth_le Rw.wf sl
        have q2 := Mgr.depth_le Rw.wf sh
        have c2 := raw.c2
        rw [hsn] at c2
        have hm := maxLen_val
        have hle2 : M.nodes.length ≤ 9223372036854775807 := by omega
        have b1 : (f : Int) < M.nodes.length := by omega
        have bnlt := World.block_lt_of_cell? _ _ n0
        unfold natV at n1 n2
        obtain ⟨x, hx⟩ := Int.eq_ofNat_of_zero_le v0
        rw [hx] at n0 hsem
        simp only [Int.toNat_natCast] at hsem
        have REL : Hid (∀ (g : Nat) (w' : World), M.stored g → M.depth f < M.depth g → M.depth g ≤ M.n → M.sem g (asg l) = M.sem f (asg l) → Kp No wr w' → ∃ k', k' < gk ∧ EvR M n l w k' (.int .i64 (g : Int)) w') := Lib.hid (fun g w' sg dg dn e kw =>
          ⟨M.n - M.depth g + 1, by omega, g, rfl, sg, by omega, e.trans hs, kp.trans_no kw⟩)
        have bl := BL.out.no kp
        have SL := Lib.hid sl
        have SH := Lib.hid sh
        have DL := Lib.hid dl
        have DH := Lib.hid dh
        have Q1 := Lib.hid q1
        have Q2 := Lib.hid q2
        by_cases hxl : x < l.length
        · obtain ⟨ao', c', hv', _, hcells⟩ := bl
          cases hv'
          rcases hcells with hcells | ⟨g, o, rfl, hcells⟩
          · subst hcells; simp at hxl
          have hb := hcells x (l[x]) (by simp [hxl])
          have hxi : (x : Int) < l.length := by omega
          have hav : asg l x = l[x] := by simp [asg, hxl]
          have glt := World.block_lt_of_cell? _ _ hb
          simp only [hav] at hsem
          cases hbx : l[x] with
          | true =>
            rw [hbx] at hb
            simp only [hbx] at hsem
            have HSE : Hid (M.sem f (asg l) = M.sem (M.nd f).2.2 (asg l)) := Lib.hid (by rw [hsem]; simp)
            clear raw hsn hnd hcn hcm hm sl sh dl dh hsem v0 v1 hx hs kp hk sf Rw lt h2 hcells hav hbx q1 q2
            generalize M.nodes.length = nn at *
            generalize l.length = ll at *
            go_wp2_with fail
            refine (constant_no _ _ h2').mono ?_
            rintro e w' ⟨rfl, rfl⟩
            go_wp2_with fail
            obtain ⟨k', hk', hrel⟩ := REL.out _ _ SH.out DH.out Q2.out HSE.out.symm (Kp.alloc _)
            go_roundg k'
            case measure => exact hk'
            case rel => exact hrel
          | false =>
            rw [hbx] at hb
            simp only [hbx] at hsem
            have HSE : Hid (M.sem f (asg l) = M.sem (M.nd f).2.1 (asg l)) := Lib.hid (by rw [hsem]; simp)
            clear raw hsn hnd hcn hcm hm sl sh dl dh hsem v0 v1 hx hs kp hk sf Rw lt h2 hcells hav hbx q1 q2
            generalize M.nodes.length = nn at *
            generalize l.length = ll at *
            go_wp2_with fail
            refine (constant_no _ _ h2').mono ?_
            rintro e w' ⟨rfl, rfl⟩
            go_wp2_with fail
            obtain ⟨k', hk', hrel⟩ := REL.out _ _ SL.out DL.out Q1.out HSE.out.symm (Kp.alloc _)
            go_roundg k'
            case measure => exact hk'
            case rel => exact hrel
        · have hav : asg l x = false := by simp [asg, List.getElem?_eq_none (Nat.le_of_not_lt hxl)]
          simp only [hav] at hsem
          have HSE : Hid (M.sem f (asg l) = M.sem (M.nd f).2.1 (asg l)) := Lib.hid (by rw [hsem]; simp)
          have hxi : ¬ (x : Int) < l.length := by omega
          have hxd : decide ((x : Int) < (l.length : Int)) = false := by simp; omega
          clear raw hsn hnd hcn hcm hm sl sh dl dh hsem v0 v1 hx hs kp hk sf bl Rw lt h2 hav q1 q2
          generalize M.nodes.length = nn at *
          generalize l.length = ll at *
          go_wp2_with fail
          refine (constant_no _ _ h2').mono ?_
          rintro e w' ⟨rfl, rfl⟩
          go_wp2_with fail
          obtain ⟨k', hk', hrel⟩ := REL.out _ _ SL.out DL.out Q1.out HSE.out.symm (Kp.alloc _)
          go_roundg k'
          case measure => exact hk'
          case rel => exact hrel
  · have e : M.evalM f l = false := if_neg hf
    rw [e]
    have SF : Hid (M.valid f = false) := Lib.hid (by simpa using hf)
    clear hf e hl
    go_enter Tryz.func21, Tryz.ntmps21
    go_wp2_with fail
    refine (valid_as _ false R SF.out).mono ?_
    rintro e w' ⟨rfl, rfl⟩
    go_wp2_with fail
    go_ret
    exact ⟨rfl, Kp.refl _ _⟩

end Go.Proofs.YtdgnbbmgcgfibaaGreatDoor

namespace Go.Proofs.YtdgnbbmgcgfibaaGreatDoor
open Go.RowKit

/-- A new manager. -/
def Mgr.new (n : Nat) : Mgr := { order := List.range n, level := List.range n, nodes := [(-1, 0, 0), (-1, 0, 0)], shown := [true, true], free := [] }

theorem Mgr.new_wf (n : Nat) : (Mgr.new n).WF where
  len := rfl
  ol := fun v hv => by
    have : v < n := by simpa [Mgr.n, Mgr.new] using hv
    simp [Mgr.lev, Mgr.ord, Mgr.new, Mgr.n, this]
  lo_ := fun v hv => by
    have : v < n := by simpa [Mgr.n, Mgr.new] using hv
    simp [Mgr.lev, Mgr.ord, Mgr.new, Mgr.n, this]
  two := by simp [Mgr.new]
  nd0 := rfl
  nd1 := rfl
  sh := rfl
  sh0 := rfl
  sh1 := rfl
  shst := fun f hf => by
    rcases Nat.lt_or_ge f 2 with h | h
    · exact .inl h
    · have : (Mgr.new n).vis f = false := by
        unfold Mgr.vis
        simp only [Mgr.new, List.getD_eq_getElem?_getD]
        rw [List.getElem?_eq_none (by simpa using h)]; rfl
      rw [this] at hf; cases hf
  node := fun f h2 hl => by
    have : f < 2 := by simpa [Mgr.new] using hl
    omega
  inj := fun f g h2 _ hl => by
    have : f < 2 := by simpa [Mgr.new] using hl
    omega
  fr := fun f hf => by simp [Mgr.new] at hf
  fnd := by simp [Mgr.new]

theorem Mgr.new_uq (n : Nat) : (Mgr.new n).uq = fun _ => none := by
  funext x
  unfold Mgr.uq
  split
  · cases h : (Mgr.new n).find (x.1, x.2.1.toNat, x.2.2.toNat) with
    | none => rfl
    | some r =>
      obtain ⟨h2, hl, _⟩ := Mgr.find_some h
      have : r < 2 := by simpa [Mgr.new] using hl
      omega
  · rfl

section
variable {w : World} {p : Nat} {L : Lay} {order level : List Nat} {nodes : List Nd} {shown : List Bool} {free : List Nat} {U F : Trip → Option Nat}
theorem Raw.pushOrder {w' : World} {v : Value} (R : Raw w p L order level nodes shown free U F) (hk : Kp (fun k => L.so.ownBlock = some k) w w') (order' : List Nat)
    (hn : w'.ownsRow 0 3 1 v order'.length (order'.map natV)) (hd : ∀ k, L.sl.ownBlock = some k → L.so.ownBlock ≠ some k) : Raw (w'.setCell ⟨p, 0, none⟩ v) p { L with so := v } order' level nodes shown free U F := by
  have mg : w'.heap[p]? = _ := (hk.block p R.plt (R.row_mgr R.order (by decide))).trans R.mgr
  have np : v.ownBlock ≠ some p := fun e => by
    obtain ⟨c1, g1⟩ := ownsRow_block hn e
    rw [mg] at g1
    cases g1
  have row : ∀ {e s n u x}, e ≠ 3 → e ≠ 110 → w.ownsRow 0 e s u n x → (w'.setCell ⟨p, 0, none⟩ v).ownsRow 0 e s u n x := fun h1 h2 h =>
    ownsRow_set (ownsRow_kp h hk (fun k e x => row_ne h R.order h1 e x)) (R.row_mgr h h2)
  exact {
    mgr := by rw [setCell_heap mg]; rfl
    order := ownsRow_set hn np
    level := ownsRow_set (ownsRow_kp R.level hk hd) (R.row_mgr R.level (by decide))
    nodes := row (by decide) (by decide) R.nodes
    shown := row (by decide) (by decide) R.shown
    free := row (by decide) (by decide) R.free
    uniq := (R.uniq.kp hk (row_map R.order R.uniq)).kp (Kp.setCell _ _) (fun x => R.map_ne R.uniq x)
    memo := (R.memo.kp hk (row_map R.order R.memo)).kp (Kp.setCell _ _) (fun x => R.map_ne R.memo x)
    ne := R.ne }

theorem Raw.pushLevel {w' : World} {v : Value} (R : Raw w p L order level nodes shown free U F) (hk : Kp (fun k => L.sl.ownBlock = some k) w w') (level' : List Nat)
    (hn : w'.ownsRow 0 3 1 v level'.length (level'.map natV)) (hd : ∀ k, L.so.ownBlock = some k → L.sl.ownBlock ≠ some k) : Raw (w'.setCell ⟨p, 1, none⟩ v) p { L with sl := v } order level' nodes shown free U F := by
  have mg : w'.heap[p]? = _ := (hk.block p R.plt (R.row_mgr R.level (by decide))).trans R.mgr
  have np : v.ownBlock ≠ some p := fun e => by
    obtain ⟨c1, g1⟩ := ownsRow_block hn e
    rw [mg] at g1
    cases g1
  have row : ∀ {e s n u x}, e ≠ 3 → e ≠ 110 → w.ownsRow 0 e s u n x → (w'.setCell ⟨p, 1, none⟩ v).ownsRow 0 e s u n x := fun h1 h2 h =>
    ownsRow_set (ownsRow_kp h hk (fun k e x => row_ne h R.level h1 e x)) (R.row_mgr h h2)
  exact {
    mgr := by rw [setCell_heap mg]; rfl
    order := ownsRow_set (ownsRow_kp R.order hk hd) (R.row_mgr R.order (by decide))
    level := ownsRow_set hn np
    nodes := row (by decide) (by decide) R.nodes
    shown := row (by decide) (by decide) R.shown
    free := row (by decide) (by decide) R.free
    uniq := (R.uniq.kp hk (row_map R.level R.uniq)).kp (Kp.setCell _ _) (fun x => R.map_ne R.uniq x)
    memo := (R.memo.kp hk (row_map R.level R.memo)).kp (Kp.setCell _ _) (fun x => R.map_ne R.memo x)
    ne := R.ne }
end

/-- The state in the loop of 'New', behind k rounds. -/
structure NewJ (w : World) (p k : Nat) (wr : World) (L : Lay) : Prop where
  raw : Raw wr p L (List.range k) (List.range k) [(-1, 0, 0), (-1, 0, 0)] [true, true] [] (fun _ => none) (fun _ => none)
  kp : Kp No w wr
  own : ∀ x, L.at p x → w.heap.size ≤ x
  ap : ∀ x, L.so.ownBlock = some x → L.sl.ownBlock ≠ some x

def NewR (w : World) (p n gk : Nat) (s : Value) (wr : World) : Prop := ∃ k L, k + gk = n ∧ s = .int .i64 (k : Int) ∧ NewJ w p k wr L

def NewPost' (w : World) (n : Nat) (e : Ending) (w' : World) : Prop := ∃ p L, e = .returned (ptr p) ∧ Rep w' p (Mgr.new n) L ∧ Kp No w w' ∧ ∀ x, L.at p x → w.heap.size ≤ x

theorem NewJ.start (w : World) : NewJ w (w.heap.size + 5) 0
    ((((((w.alloc (.cells #[.int .i64 (-1), .int .i64 0, .int .i64 0, .int .i64 (-1), .int .i64 0, .int .i64 0] 103)).alloc (.cells #[.bool true, .bool true] 4)).alloc (.map #[] 0)).alloc (.map #[] 0)).alloc (.map #[] 0)).alloc
      (.cells #[.slice none 0 0, .slice none 0 0, .slice (some ⟨w.heap.size, 0, none⟩) 2 2, .slice (some ⟨w.heap.size + 1, 0, none⟩) 2 2, .slice none 0 0, .map (some (w.heap.size + 2)), .map (some (w.heap.size + 3)), .map (some (w.heap.size + 4))] 110))
    { so := .slice none 0 0, sl := .slice none 0 0, sn := .slice (some ⟨w.heap.size, 0, none⟩) 2 2, ss := .slice (some ⟨w.heap.size + 1, 0, none⟩) 2 2, sf := .slice none 0 0, bu := w.heap.size + 2, bm := w.heap.size + 3, bc := w.heap.size + 4 } := by
  refine ⟨⟨?_, World.ownsRow_nil _ _ _ _, World.ownsRow_nil _ _ _ _, ?_, ?_, World.ownsRow_nil _ _ _ _, ?_, ?_, by simp⟩, ?_, ?_, ?_⟩
  · have := heap_alloc_new (((((w.alloc (.cells #[.int .i64 (-1), .int .i64 0, .int .i64 0, .int .i64 (-1), .int .i64 0, .int .i64 0] 103)).alloc (.cells #[.bool true, .bool true] 4)).alloc (.map #[] 0)).alloc (.map #[] 0)).alloc (.map #[] 0))
      (.cells #[.slice none 0 0, .slice none 0 0, .slice (some ⟨w.heap.size, 0, none⟩) 2 2, .slice (some ⟨w.heap.size + 1, 0, none⟩) 2 2, .slice none 0 0, .map (some (w.heap.size + 2)), .map (some (w.heap.size + 3)), .map (some (w.heap.size + 4))] 110)
    simpa using this
  · refine ⟨rfl, .inr ⟨w.heap.size, 2, #[.int .i64 (-1), .int .i64 0, .int .i64 0, .int .i64 (-1), .int .i64 0, .int .i64 0], rfl, Nat.zero_le _, ?_, Nat.le_refl _, by simp [maxLen_val], rfl, rfl⟩⟩
    rw [Below.heap_alloc _ _ _ (by simp; omega), Below.heap_alloc _ _ _ (by simp; omega), Below.heap_alloc _ _ _ (by simp; omega), Below.heap_alloc _ _ _ (by simp; omega), Below.heap_alloc _ _ _ (by simp)]
    exact heap_alloc_new _ _
  · refine ⟨rfl, .inr ⟨w.heap.size + 1, 2, #[.bool true, .bool true], rfl, Nat.zero_le _, ?_, Nat.le_refl _, by simp [maxLen_val], rfl, rfl⟩⟩
    rw [Below.heap_alloc _ _ _ (by simp), Below.heap_alloc _ _ _ (by simp), Below.heap_alloc _ _ _ (by simp), Below.heap_alloc _ _ _ (by simp)]
    have := heap_alloc_new (w.alloc (.cells #[.int .i64 (-1), .int .i64 0, .int .i64 0, .int .i64 (-1), .int .i64 0, .int .i64 0] 103)) (.cells #[.bool true, .bool true] 4)
    simpa using this
  · have := MapAs.empty ((w.alloc (.cells #[.int .i64 (-1), .int .i64 0, .int .i64 0, .int .i64 (-1), .int .i64 0, .int .i64 0] 103)).alloc (.cells #[.bool true, .bool true] 4)) tripV natV
    refine MapAs.kp ?_ (Kp.alloc _) (fun x => x)
    refine MapAs.kp ?_ (Kp.alloc _) (fun x => x)
    refine MapAs.kp ?_ (Kp.alloc _) (fun x => x)
    simpa using this
  · have := MapAs.empty (((w.alloc (.cells #[.int .i64 (-1), .int .i64 0, .int .i64 0, .int .i64 (-1), .int .i64 0, .int .i64 0] 103)).alloc (.cells #[.bool true, .bool true] 4)).alloc (.map #[] 0)) tripV natV
    refine MapAs.kp ?_ (Kp.alloc _) (fun x => x)
    refine MapAs.kp ?_ (Kp.alloc _) (fun x => x)
    simpa using this
  · exact (((((Kp.alloc _).trans_no (Kp.alloc _)).trans_no (Kp.alloc _)).trans_no (Kp.alloc _)).trans_no (Kp.alloc _)).trans_no (Kp.alloc _)
  · intro x hx
    simp [Lay.at, Value.ownBlock] at hx
    omega
  · intro x hx
    simp [Value.ownBlock] at hx

theorem info_int : (Tryz.prog.info? 3).map (fun i => (i.zero, i.size, i.bytes)) = some (some (.int .i64 0), 1, 8) := by kernel_rfl

/-- 'New': the number of variables. -/
def nvars (v : Int) : Nat := if v < 0 then 0 else if 256 < v then 256 else v.toNat

theorem NewJ.order {w : World} {p k : Nat} {wr A w1 : World} {L : Lay} {g cap : Nat} (j : NewJ w p k wr L) (kA : Kp No wr A) (hs : A.heap.size = wr.heap.size + 1)
    (hown : w1.ownsRow 0 3 1 (.slice (some ⟨g, 0, none⟩) (k + 1) cap) (k + 1) ((List.range k).map natV ++ [.int .i64 (k : Int)])) (hgrow : A.grownBy w1 L.so.ownBlock) (hat : L.so.ownBlock = some g ∨ g = A.heap.size) :
    Raw (w1.setCell ⟨p, 0, none⟩ (.slice (some ⟨g, 0, none⟩) (k + 1) cap)) p { L with so := .slice (some ⟨g, 0, none⟩) (k + 1) cap } (List.range (k + 1)) (List.range k) [(-1, 0, 0), (-1, 0, 0)] [true, true] [] (fun _ => none) (fun _ => none) ∧
    Kp No w (w1.setCell ⟨p, 0, none⟩ (.slice (some ⟨g, 0, none⟩) (k + 1) cap)) ∧ w.heap.size ≤ g ∧ L.sl.ownBlock ≠ some g := by
  have kg : Kp (fun x => L.so.ownBlock = some x) wr w1 := grown_no kA hgrow
  have hsz := j.kp.size
  refine ⟨j.raw.pushOrder kg (List.range (k + 1)) ?_ (fun x h1 h2 => j.ap x h2 h1), ?_, ?_, ?_⟩
  · simpa [List.range_succ, natV] using hown
  · have k1 : Kp No w w1 := (j.kp.trans (A := No) (A' := No) (fun _ h => .inl h) (Kp.refl _ _)).trans (A := No) (A' := fun x => L.so.ownBlock = some x) (fun x h => .inr (j.own x (by simp [Lay.at, h]))) kg
    exact k1.trans (A' := fun x => x = p) (fun x h => .inr (j.own x (.inl h))) ((Kp.setCell _ _).mono (fun _ _ e => e))
  · rcases hat with h | h
    · exact j.own g (by simp [Lay.at, h])
    · omega
  · intro h
    rcases hat with h2 | h2
    · exact j.ap g h2 h
    · have := j.raw.lt g (by simp [Lay.at, h]); omega

theorem NewJ.level {w : World} {p k : Nat} {wr A w1 : World} {L : Lay} {g cap : Nat} (raw : Raw wr p L (List.range (k + 1)) (List.range k) [(-1, 0, 0), (-1, 0, 0)] [true, true] [] (fun _ => none) (fun _ => none)) (kp : Kp No w wr)
    (own : ∀ x, L.at p x → w.heap.size ≤ x) (ap : ∀ x, L.so.ownBlock = some x → L.sl.ownBlock ≠ some x) (kA : Kp No wr A) (hs : A.heap.size = wr.heap.size + 1)
    (hown : w1.ownsRow 0 3 1 (.slice (some ⟨g, 0, none⟩) (k + 1) cap) (k + 1) ((List.range k).map natV ++ [.int .i64 (k : Int)])) (hgrow : A.grownBy w1 L.sl.ownBlock) (hat : L.sl.ownBlock = some g ∨ g = A.heap.size) :
    NewJ w p (k + 1) (w1.setCell ⟨p, 1, none⟩ (.slice (some ⟨g, 0, none⟩) (k + 1) cap)) { L with sl := .slice (some ⟨g, 0, none⟩) (k + 1) cap } := by
  have kg : Kp (fun x => L.sl.ownBlock = some x) wr w1 := grown_no kA hgrow
  have hsz := kp.size
  have hg : w.heap.size ≤ g := by
    rcases hat with h | h
    · exact own g (by simp [Lay.at, h])
    · omega
  refine ⟨raw.pushLevel kg (List.range (k + 1)) ?_ ap, ?_, ?_, ?_⟩
  · simpa [List.range_succ, natV] using hown
  · have k1 : Kp No w w1 := kp.trans (A := No) (A' := fun x => L.sl.ownBlock = some x) (fun x h => .inr (own x (by simp [Lay.at, h]))) kg
    exact k1.trans (A' := fun x => x = p) (fun x h => .inr (own x (.inl h))) ((Kp.setCell _ _).mono (fun _ _ e => e))
  · intro x hx
    rcases hx with h | h | h | h | h | h | h | h
    · exact own x (.inl h)
    · exact own x (.inr (.inl h))
    · exact own x (.inr (.inr (.inl h)))
    · exact own x (by simp [Lay.at] at h ⊢; simp [h])
    · simp [Value.ownBlock] at h; omega
    · exact own x (by simp [Lay.at] at h ⊢; simp [h])
    · exact own x (by simp [Lay.at] at h ⊢; simp [h])
    · exact own x (by simp [Lay.at] at h ⊢; simp [h])
  · intro x h1 h2
    simp [Value.ownBlock] at h2
    subst h2
    simp only at h1
    rcases hat with h | h
    · exact ap _ h1 h
    · have := raw.lt g (by simp [Lay.at, h1]); omega

set_option maxRecDepth 100000 in
set_option maxHeartbeats 1000000 in
theorem New_ok (v : Int) (w : World) : Calls Tryz.prog 25 #[.int .i64 v] w (NewPost' w (nvars v)) := by
  obtain ⟨n, hn, hn2⟩ : ∃ n : Nat, n = nvars v ∧ n ≤ 256 := ⟨_, rfl, by unfold nvars; split; omega; split <;> omega⟩
  rw [← hn]
  have HN := Lib.hid hn
  clear hn
  have hmm := @run_makeMap Tryz.prog
  go_enter Tryz.func25, Tryz.ntmps25
  go_upto_region 1 with fail
  go_cut [3] (fun s x => s = .int .i64 (n : Int) ∧ x = w)
  case first =>
    by_cases h0 : v < 0
    · have E : Hid (n = 0) := Lib.hid (by rw [HN.out]; unfold nvars; rw [if_pos h0])
      have h0' : (0 : Int) > v := h0
      go_wp2
      go_meet
      case rel => exact ⟨by rw [E.out]; rfl, rfl⟩
    · by_cases h1 : 256 < v
      · have E : Hid (n = 256) := Lib.hid (by rw [HN.out]; unfold nvars; rw [if_neg h0, if_pos h1])
        have h2 : ¬ v < 0 := h0
        go_wp2
        go_meet
        case rel => exact ⟨by rw [E.out]; rfl, rfl⟩
      · have E : Hid ((n : Int) = v) := Lib.hid (by rw [HN.out]; unfold nvars; rw [if_neg h0, if_neg h1]; omega)
        go_wp2
        go_meet
        case rel => exact ⟨by rw [E.out], rfl⟩
  case rest =>
  obtain ⟨hs, hw⟩ := hcut
  replace hw := hw.symm
  subst hs hw
  go_wp2
  have J0 := NewJ.start w
  have HJ0 : NewR w (w.heap.size + 1 + 1 + 1 + 1 + 1) n n (.int .i64 0) _ := ⟨0, _, by omega, rfl, J0⟩
  have H0 := Lib.hid HJ0
  clear J0 HJ0 hmm
  generalize w.heap.size + 1 + 1 + 1 + 1 + 1 = p at *
  obtain ⟨i0, hi0, hz0, hz1, hz2⟩ := info_parts info_int
  go_loopg [19] n (fun gk s wr => NewR w p n gk s wr)
  case atStart => exact H0.out
  case round =>
    clear H0
    obtain ⟨k, L, hk, rfl, j⟩ := hrel
    by_cases hlt : k < n
    · have c0 := j.raw.c0
      have z0 := j.raw.fz 0
      have o0 := j.raw.order
      rw [List.length_range] at o0
      have plt := j.raw.plt
      have hb1 : ∀ x, L.so.ownBlock = some x → x ≠ p := fun x hx e => j.raw.row_mgr j.raw.order (by decide) (e ▸ hx)
      have HJ := Lib.hid j
      have HB1 := Lib.hid hb1
      have HK := Lib.hid hk
      clear j hb1 hk
      have hlti : (k : Int) < n := by omega
      go_upto_region 7 with (at_builtin; refine wpList_append_lies _ rfl (.tmp 26) (.tmp 28) _ rfl 0 3 i0 _ 1 8 Tryz.underlying94 hi0 hz0 hz1 hz2 rfl (by omega) L.so k ((List.range k).map natV) rfl (o0.alloc _) ⟨wr.heap.size, 0, none⟩ 1 1 [.int .i64 (k : Int)] rfl rfl (World.news_of_block (heap_alloc_new _ _)) (by simp [Value.oneCell']) (by omega) (by unfold maxLen; omega) (by omega) (by omega) (wr.heap.size + 1) (by simp) ?_; intro g cap w1 hown hgrow hat hlt2; have q2 : w1.cell? ⟨p, 0, none⟩ = some L.so := (hgrow.cell_far ⟨p, 0, none⟩ (by simp; omega) (fun e => HB1.out p e.symm rfl)).trans ((World.cell?_alloc_lt _ _ _ plt).trans c0); have q3 : w1.frozen? ⟨p, 0, none⟩ = false := (hgrow.frozen_far ⟨p, 0, none⟩ (by simp; omega) (fun e => HB1.out p e.symm rfl)).trans ((World.frozen?_alloc_old _ _ _ (by simp; omega)).trans z0))
      obtain ⟨rawB, kpB, hg, hgl⟩ := HJ.out.order (Kp.alloc _) (by simp) hown hgrow (by simpa using hat)
      have ownB : ∀ x, Lay.at { L with so := .slice (some ⟨g, 0, none⟩) (k + 1) cap } p x → w.heap.size ≤ x := fun x hx => by
        rcases hx with h | h | h | h | h
        · exact HJ.out.own x (.inl h)
        · exact HJ.out.own x (.inr (.inl h))
        · exact HJ.out.own x (.inr (.inr (.inl h)))
        · simp [Value.ownBlock] at h; omega
        · exact HJ.out.own x (.inr (.inr (.inr (.inr h))))
      have apB : ∀ x, (Lay.so { L with so := .slice (some ⟨g, 0, none⟩) (k + 1) cap }).ownBlock = some x → (Lay.sl { L with so := .slice (some ⟨g, 0, none⟩) (k + 1) cap }).ownBlock ≠ some x := fun x hx => by
        simp [Value.ownBlock] at hx; subst hx; exact hgl
      clear hown hgrow hat hlt2 q2 q3 c0 z0 o0 plt HB1 HJ hg hgl
      generalize (w1.setCell ⟨p, 0, none⟩ (.slice (some ⟨g, 0, none⟩) (k + 1) cap)) = WB at *
      have HSL : Hid ({ L with so := Value.slice (some ⟨g, 0, none⟩) (k + 1) cap } = { L with so := Value.slice (some ⟨g, 0, none⟩) (k + 1) cap }) := rfl
      generalize { L with so := Value.slice (some ⟨g, 0, none⟩) (k + 1) cap } = LB at *
      clear HSL
      have c1 := rawB.c1
      have z1 := rawB.fz 1
      have o1 := rawB.level
      rw [List.length_range] at o1
      have pltB := rawB.plt
      have hb1 : ∀ x, LB.sl.ownBlock = some x → x ≠ p := fun x hx e => rawB.row_mgr rawB.level (by decide) (e ▸ hx)
      have RB := Lib.hid rawB
      have KB := Lib.hid kpB
      have OB := Lib.hid ownB
      have AB := Lib.hid apB
      have HB1 := Lib.hid hb1
      clear rawB kpB ownB apB hb1
      go_upto_region 8 with (at_builtin; refine wpList_append_lies _ rfl (.tmp 36) (.tmp 38) _ rfl 0 3 i0 _ 1 8 Tryz.underlying94 hi0 hz0 hz1 hz2 rfl (by omega) LB.sl k ((List.range k).map natV) rfl (o1.alloc _) ⟨WB.heap.size, 0, none⟩ 1 1 [.int .i64 (k : Int)] rfl rfl (World.news_of_block (heap_alloc_new _ _)) (by simp [Value.oneCell']) (by omega) (by unfold maxLen; omega) (by omega) (by omega) (WB.heap.size + 1) (by simp) ?_; intro g' cap' w2 hown hgrow hat hlt2; have q2 : w2.cell? ⟨p, 1, none⟩ = some LB.sl := (hgrow.cell_far ⟨p, 1, none⟩ (by simp; omega) (fun e => HB1.out p e.symm rfl)).trans ((World.cell?_alloc_lt _ _ _ pltB).trans c1); have q3 : w2.frozen? ⟨p, 1, none⟩ = false := (hgrow.frozen_far ⟨p, 1, none⟩ (by simp; omega) (fun e => HB1.out p e.symm rfl)).trans ((World.frozen?_alloc_old _ _ _ (by simp; omega)).trans z1))
      have JN := Lib.hid (NewJ.level RB.out KB.out OB.out AB.out (Kp.alloc _) (by simp) hown hgrow (by simpa using hat))
      clear hown hgrow hat hlt2 q2 q3 c1 z1 o1 pltB HB1 RB KB OB AB
      go_wp2
      go_roundg (n - (k + 1))
      case measure => have := HK.out; omega
      case rel => exact ⟨k + 1, _, by omega, by go_num, JN.out⟩
    · have hkn : k = n := by omega
      have FIN : Hid (NewPost' w n (.returned (ptr p)) wr) := Lib.hid (by
        subst hkn
        refine ⟨p, L, rfl, ⟨⟨fun _ => none, ?_, fun x r h => by cases h⟩, Mgr.new_wf k⟩, j.kp, j.own⟩
        rw [Mgr.new_uq k]
        exact j.raw)
      have hlti : ¬ (k : Int) < n := by omega
      have hltd : decide ((k : Int) < (n : Int)) = false := by simp; omega
      clear j hkn hk hlt
      go_wp2
      go_ret
      exact FIN.out

end Go.Proofs.YtdgnbbmgcgfibaaGreatDoor

namespace Go.Proofs.YtdgnbbmgcgfibaaGreatDoor
open Go.RowKit

/-- A manager of the call's own. -/
structure Own (w0 : World) (p : Nat) (w : World) (M : Mgr) (L : Lay) : Prop where
  rep : Rep w p M L
  kp : Kp No w0 w
  own : ∀ x, L.at p x → w0.heap.size ≤ x
/-- 'Pick'. -/
def pick (x : Int) (n : Nat) : Nat := (x % 18446744073709551616).toNat % n

theorem pick_lt (x : Int) {n : Nat} (h : 0 < n) : pick x n < n := Nat.mod_lt _ h

set_option maxRecDepth 100000 in
set_option maxHeartbeats 400000 in
theorem Pick_ok (x : Int) (n : Nat) (w : World) (h0 : 0 < n) (h1 : n ≤ 9223372036854775807) :
    Calls Tryz.prog 19 #[.int .i64 x, .int .i64 (n : Int)] w fun e w' => e = .returned (.int .i64 (pick x n : Int)) ∧ w = w' := by
  go_enter Tryz.func19, Tryz.ntmps19
  go_wp2
  go_ret
  have hu : IntKind.u64.wrap x = x % 18446744073709551616 := by simp [IntKind.wrap, IntKind.bits, IntKind.signed]
  have h2 : (0 : Int) ≤ x % 18446744073709551616 := Int.emod_nonneg _ (by omega)
  have h3 : (IntKind.u64.wrap x).tmod (n : Int) = (pick x n : Int) := by
    rw [hu, Int.tmod_eq_emod_of_nonneg h2]
    unfold pick
    rw [Int.natCast_emod, Int.toNat_of_nonneg h2]
  have h4 := pick_lt x h0
  refine ⟨?_, rfl⟩
  show Ending.returned (.int .i64 (wrap64 ((IntKind.u64.wrap x).tmod (n : Int)))) = _
  rw [h3, IntWalk.wrap64_in _ ⟨by omega, by omega⟩]

end Go.Proofs.YtdgnbbmgcgfibaaGreatDoor

namespace Go.Proofs.YtdgnbbmgcgfibaaGreatDoor
open Go.RowKit

abbrev Bfn := (Nat → Bool) → Bool

/-- What is known of the Refs of a manager: pairs of a Ref and its function; a bound on the nodes. -/
structure Qk (n c : Nat) (M : Mgr) (B : List (Int × Bfn)) : Prop where
  wf : M.WF
  nn : M.n = n
  pl : M.Plain
  cost : M.nodes.length ≤ c
  sem : ∀ x, x ∈ B → M.valid x.1 = true ∧ ∀ a, M.sem x.1.toNat a = x.2 a

theorem Qk.at {n c : Nat} {M : Mgr} {B : List (Int × Bfn)} (b : Qk n c M B) {f : Int} {F : Bfn} (h : (f, F) ∈ B) : M.valid f = true ∧ ∀ a, M.sem f.toNat a = F a := b.sem _ h
theorem Qk.rd {n c : Nat} {M : Mgr} {B : List (Int × Bfn)} (b : Qk n c M B) {f : Int} {F : Bfn} (h : (f, F) ∈ B) : Rd 0 n F := fun x y hxy => by
  obtain ⟨v, s⟩ := b.at h
  obtain ⟨k, rfl, sk, _⟩ := Mgr.valid_nat b.wf v
  rw [← s, ← s]
  exact Mgr.sem_reads b.wf sk x y (fun v hv _ => hxy v (by omega) (by rw [← b.nn]; exact hv))
theorem Qk.push {n c k : Nat} {M M' : Mgr} {B : List (Int × Bfn)} {F : Bfn} {r : Int} (b : Qk n c M B) (o : Mgr.OpS M F k M' r) {c' : Nat} (hc : c + k ≤ c') : Qk n c' M' ((r, F) :: B) := by
  refine ⟨o.wf, by rw [o.n, b.nn], o.plain b.pl, by have := o.len; have := b.cost; omega, fun x hx => ?_⟩
  rcases List.mem_cons.1 hx with rfl | hx
  · exact ⟨o.ok, o.sem⟩
  · obtain ⟨a1, a2⟩ := b.sem x hx
    obtain ⟨b1, b2⟩ := o.old x.1 a1
    exact ⟨b1, fun a => by rw [b2, a2]⟩
theorem Qk.sub {n c : Nat} {M : Mgr} {B B' : List (Int × Bfn)} (b : Qk n c M B) (h : ∀ x, x ∈ B' → x ∈ B) : Qk n c M B' := ⟨b.wf, b.nn, b.pl, b.cost, fun x hx => b.sem x (h x hx)⟩
theorem Qk.mono {n c c' : Nat} {M : Mgr} {B : List (Int × Bfn)} (b : Qk n c M B) (h : c ≤ c') : Qk n c' M B := ⟨b.wf, b.nn, b.pl, Nat.le_trans b.cost h, b.sem⟩
theorem Qk.cong {n c : Nat} {M : Mgr} {B : List (Int × Bfn)} {r : Int} {F G : Bfn} (b : Qk n c M ((r, F) :: B)) (e : ∀ a, F a = G a) : Qk n c M ((r, G) :: B) := by
  have : F = G := funext e
  rw [← this]; exact b

/-- Equal functions, equal Refs. -/
theorem Qk.eq {n c : Nat} {M : Mgr} {B : List (Int × Bfn)} (b : Qk n c M B) {f g : Int} {F G : Bfn} (hf : (f, F) ∈ B) (hg : (g, G) ∈ B) (e : ∀ a, F a = G a) : f = g := by
  obtain ⟨v1, s1⟩ := b.at hf
  obtain ⟨v2, s2⟩ := b.at hg
  exact Mgr.valid_canon b.wf v1 v2 (fun a => by rw [s1, s2]; exact e a)
theorem Qk.consts {n c : Nat} {M : Mgr} {B : List (Int × Bfn)} (b : Qk n c M B) : Qk n c M ((0, fun _ => false) :: (1, fun _ => true) :: B) := by
  refine ⟨b.wf, b.nn, b.pl, b.cost, fun x hx => ?_⟩
  rcases List.mem_cons.1 hx with rfl | hx
  · exact ⟨Mgr.valid_zero b.wf, fun a => Mgr.sem_zero M a⟩
  · rcases List.mem_cons.1 hx with rfl | hx
    · exact ⟨Mgr.valid_one b.wf, fun a => Mgr.sem_one M a⟩
    · exact b.sem x hx
theorem Qk.nonneg {n c : Nat} {M : Mgr} {B : List (Int × Bfn)} (b : Qk n c M B) {r : Int} {F : Bfn} (h : (r, F) ∈ B) : 0 ≤ r := by
  obtain ⟨v, _⟩ := b.at h
  obtain ⟨k, hk, _⟩ := Mgr.valid_nat b.wf v
  omega

theorem Mgr.new_n' (n : Nat) : (Mgr.new n).n = n := by simp [Mgr.n, Mgr.new]
theorem Qk.new (n : Nat) : Qk n 2 (Mgr.new n) [] := by
  refine ⟨Mgr.new_wf n, Mgr.new_n' n, fun v hv => ?_, by simp [Mgr.new], fun x hx => by simp at hx⟩
  rw [Mgr.new_n'] at hv
  simp [Mgr.lev, Mgr.new, hv]

/-- What an operation leaves. -/
def OpQ (p n c : Nat) (L : Lay) (w : World) (F : Bfn) (B : List (Int × Bfn)) (e : Ending) (w' : World) : Prop := ∃ r M', Ret p L w M' (.int .i64 r) e w' ∧ Qk n c M' ((r, F) :: B) ∧ 0 ≤ r

section
variable {p n c : Nat} {M : Mgr} {L : Lay} {wr : World} {B : List (Int × Bfn)} {f g h : Int} {F G H : Bfn}

theorem OpQ.of {k : Nat} {M' : Mgr} {r : Int} {e : Ending} {w' : World} (b : Qk n c M B) (o : Mgr.OpS M F k M' r) {c' : Nat} (hc : c + k ≤ c') (h : Ret p L wr M' (.int .i64 r) e w') : OpQ p n c' L wr F B e w' :=
  have b' := b.push o hc
  ⟨r, M', h, b', b'.nonneg (.head _)⟩

theorem NotQ (R : Rep wr p M L) (b : Qk n c M B) (hf : (f, F) ∈ B) {s : Nat} (hs : PSt n F s) (hc : c + n * s ≤ 4000000000000) : Calls Tryz.prog 16 #[ptr p, .int .i64 f] wr (OpQ p n (c + n * s) L wr (fun a => !F a) B) := by
  obtain ⟨v1, s1⟩ := b.at hf
  have o := Mgr.notM_ops b.wf v1 (F := fun a => !F a) (fun a => by rw [s1]) (hs.not M b.nn b.pl)
  rw [b.nn] at o
  have := o.len
  have := b.cost
  exact (Not_ok f R (by unfold big; omega)).mono (fun e w' h => OpQ.of b o (Nat.le_refl _) h)
theorem AndQ (R : Rep wr p M L) (b : Qk n c M B) (hf : (f, F) ∈ B) (hg : (g, G) ∈ B) {s : Nat} (hs : PSt n (fun a => F a && G a) s) (hc : c + n * s ≤ 4000000000000) : Calls Tryz.prog 17 #[ptr p, .int .i64 f, .int .i64 g] wr (OpQ p n (c + n * s) L wr (fun a => F a && G a) B) := by
  obtain ⟨v1, s1⟩ := b.at hf
  obtain ⟨v2, s2⟩ := b.at hg
  have o := Mgr.andM_ops b.wf v1 v2 (F := fun a => F a && G a) (fun a => by rw [s1, s2]) (hs M b.nn b.pl)
  rw [b.nn] at o
  have := o.len
  have := b.cost
  exact (And_ok f g R (by unfold big; omega)).mono (fun e w' h => OpQ.of b o (Nat.le_refl _) h)
theorem OrQ (R : Rep wr p M L) (b : Qk n c M B) (hf : (f, F) ∈ B) (hg : (g, G) ∈ B) {s : Nat} (hs : PSt n (fun a => F a || G a) s) (hc : c + n * s ≤ 4000000000000) : Calls Tryz.prog 15 #[ptr p, .int .i64 f, .int .i64 g] wr (OpQ p n (c + n * s) L wr (fun a => F a || G a) B) := by
  obtain ⟨v1, s1⟩ := b.at hf
  obtain ⟨v2, s2⟩ := b.at hg
  have o := Mgr.orM_ops b.wf v1 v2 (F := fun a => F a || G a) (fun a => by rw [s1, s2]) (hs M b.nn b.pl)
  rw [b.nn] at o
  have := o.len
  have := b.cost
  exact (Or_ok f g R (by unfold big; omega)).mono (fun e w' h => OpQ.of b o (Nat.le_refl _) h)
theorem XorQ (R : Rep wr p M L) (b : Qk n c M B) (hf : (f, F) ∈ B) (hg : (g, G) ∈ B) {s t : Nat} (hs : PSt n (fun a => F a ^^ G a) s) (ht : PSt n G t) (hc : c + n * t + n * s ≤ 4000000000000) : Calls Tryz.prog 95 #[ptr p, .int .i64 f, .int .i64 g] wr (OpQ p n (c + n * t + n * s) L wr (fun a => F a ^^ G a) B) := by
  obtain ⟨v1, s1⟩ := b.at hf
  obtain ⟨v2, s2⟩ := b.at hg
  have o := Mgr.xorM_ops b.wf v1 v2 (F := fun a => F a ^^ G a) (fun a => by rw [s1, s2]) (hs M b.nn b.pl) (ht.not.congr (fun a => by rw [s2]) M b.nn b.pl)
  rw [b.nn] at o
  have := o.len
  have := b.cost
  exact (Xor_ok f g R (by unfold big; omega)).mono (fun e w' h => OpQ.of b o (by omega) h)
theorem IteQ (R : Rep wr p M L) (b : Qk n c M B) (hf : (f, F) ∈ B) (hg : (g, G) ∈ B) (hh : (h, H) ∈ B) {s : Nat} (hs : PSt n (fun a => if F a then G a else H a) s) (hc : c + n * s ≤ 4000000000000) :
    Calls Tryz.prog 30 #[ptr p, .int .i64 f, .int .i64 g, .int .i64 h] wr (OpQ p n (c + n * s) L wr (fun a => if F a then G a else H a) B) := by
  obtain ⟨v1, s1⟩ := b.at hf
  obtain ⟨v2, s2⟩ := b.at hg
  obtain ⟨v3, s3⟩ := b.at hh
  have o := Mgr.iteM_ops b.wf v1 v2 v3 (F := fun a => if F a then G a else H a) (fun a => by rw [s1, s2, s3]) (hs M b.nn b.pl)
  rw [b.nn] at o
  have := o.len
  have := b.cost
  exact (Ite_ok f g h R (by unfold big; omega)).mono (fun e w' h => OpQ.of b o (Nat.le_refl _) h)
theorem VarQ (R : Rep wr p M L) (b : Qk n c M B) {v : Nat} (hv : v < n) (hc : c + 1 ≤ 4000000000000) :
    Calls Tryz.prog 18 #[ptr p, .int .i64 (v : Int)] wr (OpQ p n (c + 1) L wr (fun a => a v) B) := by
  have o := Mgr.varM_ops b.wf (v := v) (by rw [b.nn]; exact hv)
  have := o.len
  have := b.cost
  exact (Var_ok (v : Int) R (by unfold big; omega)).mono (fun e w' h => OpQ.of b o (by omega) h)
theorem EvalQ (R : Rep wr p M L) (b : Qk n c M B) (hf : (f, F) ∈ B) {v : Value} {l : List Bool} (hl : Bools wr v l) :
    Calls Tryz.prog 21 #[ptr p, .int .i64 f, v] wr fun e w' => e = .returned (.bool (F (asg l))) ∧ Kp No wr w' := by
  obtain ⟨v1, s1⟩ := b.at hf
  have := Eval_ok f R hl
  have e : M.evalM f l = F (asg l) := by unfold Mgr.evalM; rw [if_pos v1, s1]
  rw [e] at this
  exact this
theorem ValidQ (R : Rep wr p M L) (b : Qk n c M B) (hf : (f, F) ∈ B) : Calls Tryz.prog 34 #[ptr p, .int .i64 f] wr fun e w' => e = .returned (.bool true) ∧ wr = w' :=
  valid_as f true R (b.at hf).1
end

end Go.Proofs.YtdgnbbmgcgfibaaGreatDoor

namespace Go.Proofs.YtdgnbbmgcgfibaaGreatDoor
open Go.RowKit

/-- A slice that reads as n elements, the cells xs. -/
def SrcAt (w : World) (v : Value) (size n : Nat) (xs : List Value) : Prop :=
  ∃ ao c, v = .slice ao n c ∧ xs.length = n * size ∧ (n = 0 ∨ ∃ g o, ao = some ⟨g, o, none⟩ ∧ g < w.heap.size ∧ ∀ j u, xs[j]? = some u → w.cell? ⟨g, o + j, none⟩ = some u)

theorem SrcAt.kp {A : Nat → Prop} {w w' : World} {v : Value} {size n : Nat} {xs : List Value} (h : SrcAt w v size n xs) (k : Kp A w w') (hA : n ≠ 0 → ∀ g o m c, v = .slice (some ⟨g, o, none⟩) m c → ¬ A g) : SrcAt w' v size n xs := by
  obtain ⟨ao, c, hv, hl, h⟩ := h
  refine ⟨ao, c, hv, hl, ?_⟩
  rcases h with h | ⟨g, o, rfl, hg, h⟩
  · exact .inl h
  · by_cases hn : n = 0
    · exact .inl hn
    exact .inr ⟨g, o, rfl, Nat.lt_of_lt_of_le hg k.size, fun j u hu => by rw [k.cell hg (hA hn g o _ _ hv)]; exact h j u hu⟩
theorem SrcAt.no {w w' : World} {v : Value} {size n : Nat} {xs : List Value} (h : SrcAt w v size n xs) (k : Kp No w w') : SrcAt w' v size n xs := h.kp k (fun _ _ _ _ _ _ x => x)

theorem SrcAt.of_row {w : World} {base e size n : Nat} {v : Value} {xs : List Value} (h : w.ownsRow base e size v n xs) : SrcAt w v size n xs := by
  rcases h.2 with ⟨rfl, h0⟩ | ⟨g, cap, cur, rfl, hb, hg, h1, h2, h3, h4⟩
  · exact ⟨none, 0, by rw [h0], h.1, .inl h0⟩
  · refine ⟨_, _, rfl, h.1, ?_⟩
    rcases Nat.eq_zero_or_pos n with h0 | h0
    · exact .inl h0
    · obtain ⟨g', cap', hv, _, _, _, hc, _⟩ := ownsRow_open h h0
      cases hv
      exact .inr ⟨g, 0, rfl, heap_lt hg, fun j u hu => by rw [Nat.zero_add]; exact hc j u hu⟩

section
variable {P : Program} {w : World}

theorem run_append_src {t e : TypeId} (ty : TypeId) {base : Nat} {i : TypeInfo} {z : Value} {size bytes : Nat} (ht : P.underlying t = some (.slice e)) (hi : P.info? e = some i) (hz : i.zero = some z)
    (hsize : i.size = size) (hby : i.bytes = bytes) (hzs : z.cells.size = size) (hsz : 0 < size) {v u : Value} {n m : Nat} {xs news : List Value} (hown : w.ownsRow base e size v n xs) (hsrc : SrcAt w u size m news)
    (h1 : ∀ x ∈ news, x.oneCell' = true) (h63 : n + m ≤ maxLen) (hbytes : (n + m) * bytes ≤ 140737488355328) (hbase : base ≤ w.heap.size) :
    ∃ v' w', (Builtin.append_ #[t, t] ty #[v, u]).run P w = .ok v' w' ∧ w'.ownsRow base e size v' (n + m) (xs ++ news) ∧ w.grownBy w' v.ownBlock ∧ (v'.ownBlock = v.ownBlock ∨ v'.ownBlock = some w.heap.size) := by
  obtain ⟨ao, c, rfl, hl, hc⟩ := hsrc
  cases ao with
  | none =>
    have hm : m = 0 := by
      rcases hc with hc | ⟨g, o, hx, _⟩
      · exact hc
      · cases hx
    subst hm
    have hnil : news = [] := List.eq_nil_of_length_eq_zero (by simpa using hl)
    subst hnil
    refine ⟨v, w, ?_, by simpa using hown, World.grownBy.refl w _, .inl rfl⟩
    rcases hown.2 with ⟨rfl, rfl⟩ | ⟨g, cap, cur, rfl, _, _, hnc, _⟩
    · simp [Builtin.append_, run_underlying ht, sizeOf, typeInfo, hi, Builtin.lenOf, Builtin.firstCells]
    · simp [Builtin.append_, run_underlying ht, sizeOf, typeInfo, hi, Builtin.lenOf, Builtin.firstCells, hnc, storeCells]
  | some ad =>
    have hcells : ∀ j x, news[j]? = some x → w.cell? (ad.add j) = some x := by
      intro j x hx
      rcases hc with hc | ⟨g, o, he, _, hcc⟩
      · subst hc
        have hnil : news = [] := List.eq_nil_of_length_eq_zero (by simpa using hl)
        subst hnil
        simp at hx
      · cases he
        have e1 : (Addr.mk g o none).add j = ⟨g, o + j, none⟩ := Go.WideShapes.add_plain ..
        rw [e1]
        exact hcc j x hx
    obtain ⟨v', w', hr, h2, h3, _, h5⟩ := run_append_own_at (P := P) w base t ty e i z size bytes ht hi hz hsize hby hzs hsz v n xs hown ad m c news hl hcells h1 h63 hbytes hbase
    exact ⟨v', w', hr, h2, h3, h5⟩

theorem wp_append_src {o : Oper} {a : Act} {K : Act → World → Prop} {Q : Exit → Act → World → Prop} {s x : Operand} {t : TypeId}
    (ho : o.op = .call { callee := .builtin .append, args := #[s, x], argTypes := #[t, t] })
    {base : Nat} {e : TypeId} {i : TypeInfo} {z : Value} {size bytes : Nat} (ht : P.underlying t = some (.slice e)) (hi : P.info? e = some i) (hz : i.zero = some z)
    (hsize : i.size = size) (hby : i.bytes = bytes) (hzs : z.cells.size = size) (hsz : 0 < size) {v u : Value} {n m : Nat} {xs news : List Value} (hs : a.eval s = v) (hown : w.ownsRow base e size v n xs) (hx : a.eval x = u) (hsrc : SrcAt w u size m news)
    (h1 : ∀ x ∈ news, x.oneCell' = true) (h63 : n + m ≤ maxLen) (hbytes : (n + m) * bytes ≤ 140737488355328) (hbase : base ≤ w.heap.size)
    (h : ∀ v' w', w'.ownsRow base e size v' (n + m) (xs ++ news) → w.grownBy w' v.ownBlock → (v'.ownBlock = v.ownBlock ∨ v'.ownBlock = some w.heap.size) → K (a.put o.dst v') w') : o.wp P a w K Q := by
  obtain ⟨v', w', hr, h2, h3, h4⟩ := run_append_src (P := P) o.type ht hi hz hsize hby hzs hsz hown hsrc h1 h63 hbytes hbase
  unfold Oper.wp execOp
  simp only [ho, resolve, invoke, builtin, Sem.run_bind, Sem.run_pure, Result.andThen_ok, List.map_toArray, List.map_cons, List.map_nil, hs, hx, hr]
  exact h v' w' h2 h3 h4

/-- At a plain region. -/
theorem wpList_append_src {ops : Array Oper} {rest : List Oper} {o : Oper} {a : Act} {Q : Exit → Act → World → Prop} (hgd : o.guard = none) (s x : Operand) {t : TypeId}
    (ho : o.op = .call { callee := .builtin .append, args := #[s, x], argTypes := #[t, t] })
    {base : Nat} {e : TypeId} {i : TypeInfo} {z : Value} {size bytes : Nat} (ht : P.underlying t = some (.slice e)) (hi : P.info? e = some i) (hz : i.zero = some z)
    (hsize : i.size = size) (hby : i.bytes = bytes) (hzs : z.cells.size = size) (hsz : 0 < size) {v u : Value} {n m : Nat} {xs news : List Value} (hs : a.eval s = v) (hown : w.ownsRow base e size v n xs) (hx : a.eval x = u) (hsrc : SrcAt w u size m news)
    (h1 : ∀ x ∈ news, x.oneCell' = true) (h63 : n + m ≤ maxLen) (hbytes : (n + m) * bytes ≤ 140737488355328) (hbase : base ≤ w.heap.size)
    (h : ∀ v' w', w'.ownsRow base e size v' (n + m) (xs ++ news) → w.grownBy w' v.ownBlock → (v'.ownBlock = v.ownBlock ∨ v'.ownBlock = some w.heap.size) → wpList P ops Q rest (a.put o.dst v') w') : wpList P ops Q (o :: rest) a w :=
  wpList_plain hgd fun _ hK => wp_append_src ho ht hi hz hsize hby hzs hsz hs hown hx hsrc h1 h63 hbytes hbase fun v' w' h2 h3 h4 => hK _ _ (h v' w' h2 h3 h4)

end

section
variable {P : Program} {w : World}
end

end Go.Proofs.YtdgnbbmgcgfibaaGreatDoor

namespace Go.Proofs.YtdgnbbmgcgfibaaGreatDoor
open Go.RowKit

/-- The assignment that is the bits of i. -/
def bitsOf (i : Nat) : Nat → Bool := fun v => i.testBit v
/-- The truth table of a function of n variables. -/
def tab (n : Nat) (F : (Nat → Bool) → Bool) : List Bool := (List.range (2 ^ n)).map fun i => F (bitsOf i)

theorem made_false (n : Nat) : (madeCells (Value.bool false).cells (n * 1)).toList = List.replicate n (.bool false) := by
  apply List.ext_getElem?
  intro j
  simp only [madeCells, Nat.mul_one, Array.getElem?_toList, List.getElem?_replicate]
  by_cases hj : j < n
  · simp [hj, Value.cells, Nat.mod_one]
  · simp [hj]

/-- A store into an owned row, at any base. -/
theorem ownsRow_put {w : World} {base e size n : Nat} {g cap : Nat} {xs : List Value} (h : w.ownsRow base e size (.slice (some ⟨g, 0, none⟩) n cap) n xs) (i : Nat) (v : Value) :
    (w.setCell ⟨g, i, none⟩ v).ownsRow base e size (.slice (some ⟨g, 0, none⟩) n cap) n (xs.set i v) := by
  refine ⟨by rw [List.length_set]; exact h.1, ?_⟩
  rcases h.2 with ⟨hx, _⟩ | ⟨g', cap', cur, hv, hb, hg, h1, h2, h3, h4⟩
  · cases hx
  · cases hv
    exact .inr ⟨g, cap, _, rfl, hb, setCell_heap hg v, h1, h2, by simpa using h3, take_set_row h4 v rfl⟩

theorem bit_fin : ∀ i : Fin 64, ∀ v : Fin 6, (bits BinOp.and IntKind.i64 ((i.val : Int) / 2 ^ v.val) 1 == 1) = i.val.testBit v.val := by decide +kernel
theorem bit_at {i v : Nat} (hi : i < 64) (hv : v < 6) : (bits BinOp.and IntKind.i64 ((i : Int) / 2 ^ v) 1 == 1) = i.testBit v := bit_fin ⟨i, hi⟩ ⟨v, hv⟩

/-! ### Restrict -/
end Go.Proofs.YtdgnbbmgcgfibaaGreatDoor
