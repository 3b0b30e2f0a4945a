/-
  Walks: 'join' of the package bdd.
-/
import Derived.Test.YtngbodmooddjbaaGreatW7
import Derived.Test.YtngbodmooddjbaaGreatBdd
namespace Go.Proofs.YtngbodmooddjbaaGreat
namespace Mgr

/-- What an operation leaves: the answer r denotes F; what was valid is valid and denotes what it did; at most c nodes more. -/
structure OpS (M : Mgr) (F : (Nat → Bool) → Bool) (c : Nat) (M' : Mgr) (r : Int) : Prop where
  wf : M'.WF
  order : M'.order = M.order
  level : M'.level = M.level
  ok : M'.valid r = true
  sem : ∀ a, M'.sem r.toNat a = F a
  old : ∀ f, M.valid f = true → M'.valid f = true ∧ ∀ a, M'.sem f.toNat a = M.sem f.toNat a
  len : M'.nodes.length ≤ M.nodes.length + c

theorem OpS.n {M M' : Mgr} {F : (Nat → Bool) → Bool} {c : Nat} {r : Int} (o : OpS M F c M' r) : M'.n = M.n := by unfold Mgr.n; rw [o.order]
theorem Ext.mix {M M' : Mgr} (e : Ext M M') (d : Nat) (a b : Nat → Bool) : M'.mix d a b = M.mix d a b := by
  funext v; unfold Mgr.mix; rw [e.lev]

theorem build_cost {M : Mgr} (h : M.WF) {F : (Nat → Bool) → Bool} (hF : M.Reads 0 F) {s : Nat} (hs : M.States F s) : (build M.n M F).1.nodes.length ≤ M.nodes.length + M.n * s := by
  have sp := build_spec M.n M h (Nat.le_refl _) F (by rw [Nat.sub_self]; exact hF)
  have l := build_len h (Nat.le_refl _) (F := F) (by rw [Nat.sub_self]; exact hF)
  obtain ⟨st, h1, h2⟩ := hs
  have := size_states sp.wf sp.st s st h1 (fun d a a' e b => by rw [sp.sem, sp.sem, sp.ext.mix, sp.ext.mix]; exact h2 d a a' e b)
  rw [sp.ext.n] at this
  omega

/-- The code of the first m variables. -/
def code : Nat → (Nat → Bool) → Nat
  | 0, _ => 0
  | m + 1, a => 2 * code m a + if a m then 1 else 0
theorem code_lt : ∀ (m : Nat) (a : Nat → Bool), code m a < 2 ^ m
  | 0, _ => by simp [code]
  | m + 1, a => by have := code_lt m a; simp only [code]; rw [Nat.pow_succ]; split <;> omega
theorem code_inj : ∀ (m : Nat) (a b : Nat → Bool), code m a = code m b → ∀ v, v < m → a v = b v
  | 0, _, _, _, _, hv => by omega
  | m + 1, a, b, h, v, hv => by
    simp only [code] at h
    have h1 : code m a = code m b := by split at h <;> split at h <;> omega
    by_cases e : v = m
    · subst e
      cases ha : a v <;> cases hb : b v <;> simp [ha, hb] at h ⊢ <;> omega
    · exact code_inj m a b h1 v (by omega)

/-- Every function of n variables. -/
theorem states_any {M : Mgr} {F : (Nat → Bool) → Bool} (hF : M.Reads 0 F) : M.States F (2 ^ M.n) := by
  refine ⟨fun _ a => code M.n a, fun _ a => code_lt _ a, fun d a a' h b => hF _ _ (fun v hv _ => ?_)⟩
  have := code_inj M.n a a' h v hv
  unfold mix; split
  · exact this
  · rfl

theorem sem_reads {M : Mgr} (h : M.WF) {f : Nat} (hf : M.stored f) : M.Reads 0 (M.sem f) := fun a b hab => sem_agree h _ f hf (Nat.le_refl _) a b (fun v hv _ => hab v hv (by omega))

/-- The answer of a build, shown. -/
theorem show_ops {M : Mgr} (h : M.WF) {B : Mgr × Nat} {F : (Nat → Bool) → Bool} {c : Nat} (wf : B.1.WF) (e : Ext M B.1) (st : B.1.stored B.2) (sem : ∀ a, B.1.sem B.2 a = F a) (len : B.1.nodes.length ≤ M.nodes.length + c) :
    OpS M F c (B.1.show B.2) (B.2 : Int) := by
  have hlt : B.2 < B.1.shown.length := by rw [wf.sh]; exact B.1.stored_lt wf st
  refine ⟨show_wf wf st, e.order, e.level, ?_, fun a => ?_, fun f hf => ⟨?_, fun a => ?_⟩, len⟩
  · unfold valid; rw [Int.toNat_natCast, vis_show _ _ _ hlt]; simp
  · rw [Int.toNat_natCast, show_sem]; exact sem a
  · unfold valid at hf ⊢
    simp only [Bool.and_eq_true, decide_eq_true_eq] at hf ⊢
    refine ⟨hf.1, ?_⟩
    rw [vis_show _ _ _ hlt, e.vis, hf.2]; simp
  · obtain ⟨k, rfl, sk, _⟩ := valid_nat h hf
    rw [Int.toNat_natCast, show_sem, e.sem h sk]

theorem iteM_ops {M : Mgr} (h : M.WF) {f g k : Int} (hf : M.valid f = true) (hg : M.valid g = true) (hk : M.valid k = true) {F : (Nat → Bool) → Bool}
    (hF : ∀ a, F a = if M.sem f.toNat a then M.sem g.toNat a else M.sem k.toNat a) {s : Nat} (hs : M.States F s) : OpS M F (M.n * s) (M.iteM f g k).1 (M.iteM f g k).2 := by
  have e : M.iteM f g k = _ := if_pos ⟨hf, hg, hk⟩
  obtain ⟨f, rfl, sf, _⟩ := valid_nat h hf
  obtain ⟨g, rfl, sg, _⟩ := valid_nat h hg
  obtain ⟨k, rfl, sk, _⟩ := valid_nat h hk
  rw [e]
  simp only [Int.toNat_natCast] at hF ⊢
  have eF : F = iteF M f g k := funext hF
  have hr : M.Reads (M.n - M.n) (iteF M f g k) := iteF_reads h sf sg sk (by omega) (by omega) (by omega)
  have sp := build_spec M.n M h (Nat.le_refl _) _ hr
  rw [eF] at hs ⊢
  exact show_ops h sp.wf sp.ext sp.st sp.sem (build_cost h (by rw [Nat.sub_self] at hr; exact hr) hs)

theorem valid_zero {M : Mgr} (h : M.WF) : M.valid 0 = true := by unfold valid; simp [h.sh0]
theorem valid_one {M : Mgr} (h : M.WF) : M.valid 1 = true := by unfold valid; simp [h.sh1]

theorem notM_ops {M : Mgr} (h : M.WF) {f : Int} (hf : M.valid f = true) {F : (Nat → Bool) → Bool} (hF : ∀ a, F a = !M.sem f.toNat a) {s : Nat} (hs : M.States F s) : OpS M F (M.n * s) (M.notM f).1 (M.notM f).2 :=
  iteM_ops h hf (valid_zero h) (valid_one h) (fun a => by rw [hF]; cases M.sem f.toNat a <;> simp) hs
theorem andM_ops {M : Mgr} (h : M.WF) {f g : Int} (hf : M.valid f = true) (hg : M.valid g = true) {F : (Nat → Bool) → Bool} (hF : ∀ a, F a = (M.sem f.toNat a && M.sem g.toNat a)) {s : Nat} (hs : M.States F s) :
    OpS M F (M.n * s) (M.andM f g).1 (M.andM f g).2 :=
  iteM_ops h hf hg (valid_zero h) (fun a => by rw [hF]; cases M.sem f.toNat a <;> simp) hs
theorem orM_ops {M : Mgr} (h : M.WF) {f g : Int} (hf : M.valid f = true) (hg : M.valid g = true) {F : (Nat → Bool) → Bool} (hF : ∀ a, F a = (M.sem f.toNat a || M.sem g.toNat a)) {s : Nat} (hs : M.States F s) :
    OpS M F (M.n * s) (M.orM f g).1 (M.orM f g).2 :=
  iteM_ops h hf (valid_one h) hg (fun a => by rw [hF]; cases M.sem f.toNat a <;> simp) hs

theorem xorM_ops {M : Mgr} (h : M.WF) {f g : Int} (hf : M.valid f = true) (hg : M.valid g = true) {F : (Nat → Bool) → Bool} (hF : ∀ a, F a = (M.sem f.toNat a ^^ M.sem g.toNat a)) {s t : Nat} (hs : M.States F s)
    (ht : M.States (fun a => !M.sem g.toNat a) t) : OpS M F (M.n * t + M.n * s) (M.xorM f g).1 (M.xorM f g).2 := by
  have e : M.xorM f g = _ := if_pos ⟨hf, hg⟩
  obtain ⟨f, rfl, sf, _⟩ := valid_nat h hf
  obtain ⟨g, rfl, sg, _⟩ := valid_nat h hg
  rw [e]
  simp only [Int.toNat_natCast] at hF ht ⊢
  have s0 : M.stored 0 := .inl (by omega)
  have s1 : M.stored 1 := .inl (by omega)
  have hr : M.Reads (M.n - M.n) (iteF M g 0 1) := iteF_reads h sg s0 s1 (by omega) (by omega) (by omega)
  have eg : iteF M g 0 1 = fun a => !M.sem g a := by funext a; unfold iteF; cases M.sem g a <;> simp
  have sp := build_spec M.n M h (Nat.le_refl _) _ hr
  have c1 := build_cost h (by rw [Nat.sub_self] at hr; exact hr) (by rw [eg]; exact ht)
  generalize build M.n M (iteF M g 0 1) = b at *
  have hr2 : b.1.Reads (b.1.n - b.1.n) (iteF b.1 f b.2 g) := iteF_reads sp.wf (sp.ext.stored sf) sp.st (sp.ext.stored sg) (by omega) (by omega) (by omega)
  have sq := build_spec b.1.n b.1 sp.wf (Nat.le_refl _) _ hr2
  have eF : iteF b.1 f b.2 g = F := by
    funext a
    rw [hF]
    unfold iteF
    rw [sp.ext.sem h sf, sp.ext.sem h sg, sp.sem, eg]
    show (if M.sem f a = true then !M.sem g a else M.sem g a) = _
    cases M.sem f a <;> cases M.sem g a <;> rfl
  have c2 := build_cost sp.wf (s := s) (by rw [Nat.sub_self] at hr2; exact hr2) (by
    rw [eF]
    obtain ⟨st, h1, h2⟩ := hs
    exact ⟨st, h1, fun d a a' e b => by rw [sp.ext.mix, sp.ext.mix]; exact h2 d a a' e b⟩)
  rw [sp.ext.n] at sq c2
  generalize build M.n b.1 (iteF b.1 f b.2 g) = c at *
  exact show_ops h sq.wf (sp.ext.trans sq.ext) sq.st (fun a => by rw [sq.sem, eF]) (by omega)

theorem varM_ops {M : Mgr} (h : M.WF) {v : Nat} (hv : v < M.n) : OpS M (fun a => a v) 1 (M.varM v).1 (M.varM v).2 := by
  have e : M.varM (v : Int) = _ := if_pos ⟨by omega, by omega⟩
  rw [e]
  simp only [Int.toNat_natCast]
  have sp := put_spec h hv (.inl (by omega)) (.inl (by omega)) (lev_lt_const h hv (f := 0) (by omega)) (lev_lt_const h hv (f := 1) (by omega))
  exact show_ops h sp.wf sp.ext sp.st (fun a => by rw [sp.sem]; simp) sp.len

end Mgr
end Go.Proofs.YtngbodmooddjbaaGreat

namespace Go.Proofs.YtngbodmooddjbaaGreat

/-- The function reads the variables from lo to hi - 1 alone. -/
def Rd (lo hi : Nat) (F : (Nat → Bool) → Bool) : Prop := ∀ a b : Nat → Bool, (∀ v, lo ≤ v → v < hi → a v = b v) → F a = F b
end Go.Proofs.YtngbodmooddjbaaGreat

namespace Go.Proofs.YtngbodmooddjbaaGreat

/-- The number with the bits h 0, h 1 .. h (b - 1), the first one the highest. -/
def hval (h : Nat → Bool) : Nat → Nat
  | 0 => 0
  | b + 1 => 2 * hval h b + if h b then 1 else 0
end Go.Proofs.YtngbodmooddjbaaGreat

namespace Go.Proofs.YtngbodmooddjbaaGreat
open Go.RowKit

namespace Mgr
/-- 'join'. -/
def joinM (M : Mgr) (v lo hi : Nat) : Mgr × Nat :=
  if M.lev v < M.depth lo ∧ M.lev v < M.depth hi then M.put v lo hi
  else build M.n (M.put v 0 1).1 (iteF (M.put v 0 1).1 (M.put v 0 1).2 hi lo)

def joinF (M : Mgr) (v lo hi : Nat) : (Nat → Bool) → Bool := fun a => if a v then M.sem hi a else M.sem lo a

structure JoinSpec (M : Mgr) (v lo hi : Nat) (M' : Mgr) (r : Nat) : Prop where
  wf : M'.WF
  ext : Ext M M'
  st : M'.stored r
  sem : ∀ a, M'.sem r a = joinF M v lo hi a

theorem join_spec {M : Mgr} (h : M.WF) {v lo hi : Nat} (hv : v < M.n) (hl : M.stored lo) (hh : M.stored hi) : JoinSpec M v lo hi (M.joinM v lo hi).1 (M.joinM v lo hi).2 := by
  unfold joinM
  by_cases c : M.lev v < M.depth lo ∧ M.lev v < M.depth hi
  · rw [if_pos c]
    have s := put_spec h hv hl hh c.1 c.2
    exact ⟨s.wf, s.ext, s.st, s.sem⟩
  · rw [if_neg c]
    have s := put_spec h hv (.inl (by omega)) (.inl (by omega)) (lev_lt_const h hv (f := 0) (by omega)) (lev_lt_const h hv (f := 1) (by omega))
    generalize M.put v 0 1 = b at *
    have hr : b.1.Reads (b.1.n - M.n) (iteF b.1 b.2 hi lo) := iteF_reads s.wf s.st (s.ext.stored hh) (s.ext.stored hl) (by rw [s.ext.n]; omega) (by rw [s.ext.n]; omega) (by rw [s.ext.n]; omega)
    have sp := build_spec M.n b.1 s.wf (by rw [s.ext.n]; omega) _ hr
    refine ⟨sp.wf, s.ext.trans sp.ext, sp.st, fun a => ?_⟩
    rw [sp.sem]
    unfold iteF joinF
    rw [s.sem, s.ext.sem h hh, s.ext.sem h hl]
    cases a v <;> simp

end Mgr

set_option maxRecDepth 100000 in
set_option maxHeartbeats 1000000 in
theorem join_ok {p : Nat} {M : Mgr} {L : Lay} (v lo hi : Nat) {w : World} (R : Rep w p M L) (hv : v < M.n) (hl : M.stored lo) (hh : M.stored hi) (hb : (M.joinM v lo hi).1.nodes.length ≤ big) :
    Calls Tryz.prog 84 #[ptr p, .int .i64 (v : Int), .int .i64 (lo : Int), .int .i64 (hi : Int)] w (Ret p L w (M.joinM v lo hi).1 (.int .i64 (M.joinM v lo hi).2)) := by
  obtain ⟨F, raw, _⟩ := R.raw
  have hvl : v < M.level.length := by rw [R.wf.len]; exact hv
  obtain ⟨bl, cl, hsl, hcl, hclm, hlc⟩ := ownsRow_nats raw.level v hvl
  have c1 := raw.c1
  rw [hsl] at c1
  unfold natV at hlc
  rw [show M.level.getD v 0 = M.lev v from rfl] at hlc
  have hm := maxLen_val
  have hle : M.level.length ≤ 9223372036854775807 := by omega
  have b1 : (v : Int) < M.level.length := by omega
  have DL := Lib.hid (fun (x : World) (k : Kp No w x) => depth_I lo (R.no k) hl)
  have DH := Lib.hid (fun (x : World) (k : Kp No w x) => depth_I hi (R.no k) hh)
  by_cases c : M.lev v < M.depth lo ∧ M.lev v < M.depth hi
  · have e : M.joinM v lo hi = M.put v lo hi := if_pos c
    rw [e] at hb ⊢
    have PUT := Lib.hid (fun (x : World) (k : Kp No w x) => node_ok v lo hi (R.no k) hv hl hh c.1 c.2 hb)
    have q1 : (M.lev v : Int) < dI M lo := by unfold dI; omega
    have q2 : (M.lev v : Int) < dI M hi := by unfold dI; omega
    have SD := Lib.hid (Sd.start R)
    clear raw hsl hcl hclm hm e c hb R hv hl hh hvl
    generalize M.level.length = nl at *
    generalize (M.lev v : Int) = lv at *
    generalize dI M lo = d1 at *
    generalize dI M hi = d2 at *
    generalize M.put v lo hi = B at *
    go_enter Tryz.func84, Tryz.ntmps84
    go_wp2_with fail
    refine (DL.out w (Kp.refl _ _)).mono ?_
    rintro e x ⟨rfl, k1, hx1⟩
    have K1 : Hid (Kp No w x) := Lib.hid (by rw [hx1]; exact Kp.drewN _)
    clear hx1
    go_wp2_with fail
    refine (DH.out x K1.out).mono ?_
    rintro e y ⟨rfl, k2, hx2⟩
    have K2 : Hid (Kp No w y) := Lib.hid (by rw [hx2]; exact K1.out.trans_no (Kp.drewN _))
    clear hx2
    go_wp2_with fail
    refine (PUT.out y K2.out).mono ?_
    intro e z hr
    obtain ⟨rfl, L3, s3⟩ := (SD.out.no K2.out).step hr
    clear hr
    go_wp2_with fail
    go_ret
    exact s3.ret _
  · have e : M.joinM v lo hi = Mgr.build M.n (M.put v 0 1).1 (iteF (M.put v 0 1).1 (M.put v 0 1).2 hi lo) := if_neg c
    have d0 := Mgr.lev_lt_const R.wf hv (f := 0) (by omega)
    have d1 := Mgr.lev_lt_const R.wf hv (f := 1) (by omega)
    have sp := Mgr.put_spec R.wf hv (.inl (by omega)) (.inl (by omega)) d0 d1
    have js := Mgr.build_spec M.n (M.put v 0 1).1 sp.wf (by rw [sp.ext.n]; omega) _ (iteF_reads (d := (M.put v 0 1).1.n - M.n) sp.wf sp.st (sp.ext.stored hh) (sp.ext.stored hl) (by rw [sp.ext.n]; omega) (by rw [sp.ext.n]; omega) (by rw [sp.ext.n]; omega))
    rw [e] at hb ⊢
    have PUT := Lib.hid (fun (x : World) (k : Kp No w x) => node_ok v 0 1 (R.no k) hv (.inl (by omega)) (.inl (by omega)) d0 d1 (Nat.le_trans js.ext.len hb))
    have ITE : Hid (∀ (x : World) (L' : Lay), Rep x p (M.put v 0 1).1 L' → Calls Tryz.prog 63 #[ptr p, .int .i64 ((M.put v 0 1).2 : Int), .int .i64 (hi : Int), .int .i64 (lo : Int)] x (Ret p L' x (Mgr.build M.n (M.put v 0 1).1 (iteF (M.put v 0 1).1 (M.put v 0 1).2 hi lo)).1 (.int .i64 (Mgr.build M.n (M.put v 0 1).1 (iteF (M.put v 0 1).1 (M.put v 0 1).2 hi lo)).2))) := Lib.hid (fun x L' Rx => by
      have := ite_ok (M.put v 0 1).2 hi lo Rx sp.st (sp.ext.stored hh) (sp.ext.stored hl)
      rw [sp.ext.n] at this
      exact this hb)
    have SD := Lib.hid (Sd.start R)
    have HC : Hid (¬ ((M.lev v : Int) < dI M lo ∧ (M.lev v : Int) < dI M hi)) := Lib.hid (by unfold dI; omega)
    clear raw hsl hcl hclm hm e c hb R hv hl hh hvl sp js d0 d1
    generalize M.level.length = nl at *
    generalize (M.lev v : Int) = lv at *
    generalize dI M lo = d1 at *
    generalize dI M hi = d2 at *
    generalize Mgr.build M.n (M.put v 0 1).1 (iteF (M.put v 0 1).1 (M.put v 0 1).2 hi lo) = C at *
    generalize M.put v 0 1 = B at *
    by_cases q1 : lv < d1
    · have q2 : ¬ lv < d2 := fun h => HC.out ⟨q1, h⟩
      have q2' : decide (lv < d2) = false := decide_eq_false q2
      go_enter Tryz.func84, Tryz.ntmps84
      go_wp2_with fail
      refine (DL.out w (Kp.refl _ _)).mono ?_
      rintro e x ⟨rfl, k1, hx1⟩
      have K1 : Hid (Kp No w x) := Lib.hid (by rw [hx1]; exact Kp.drewN _)
      clear hx1
      go_wp2_with fail
      refine (DH.out x K1.out).mono ?_
      rintro e y ⟨rfl, k2, hx2⟩
      have K2 : Hid (Kp No w y) := Lib.hid (by rw [hx2]; exact K1.out.trans_no (Kp.drewN _))
      clear hx2
      go_wp2_with fail
      refine (PUT.out y K2.out).mono ?_
      intro e z hr
      obtain ⟨rfl, L3, s3⟩ := (SD.out.no K2.out).step hr
      clear hr
      go_wp2_with fail
      refine (ITE.out z L3 s3.rep).mono ?_
      intro e z2 hr
      obtain ⟨rfl, L4, s4⟩ := s3.step hr
      clear hr s3
      go_wp2_with fail
      go_ret
      exact s4.ret _
    · have q1' : decide (lv < d1) = false := decide_eq_false q1
      go_enter Tryz.func84, Tryz.ntmps84
      go_wp2_with fail
      refine (DL.out w (Kp.refl _ _)).mono ?_
      rintro e x ⟨rfl, k1, hx1⟩
      have K1 : Hid (Kp No w x) := Lib.hid (by rw [hx1]; exact Kp.drewN _)
      clear hx1
      go_wp2_with fail
      refine (PUT.out x K1.out).mono ?_
      intro e z hr
      obtain ⟨rfl, L3, s3⟩ := (SD.out.no K1.out).step hr
      clear hr
      go_wp2_with fail
      refine (ITE.out z L3 s3.rep).mono ?_
      intro e z2 hr
      obtain ⟨rfl, L4, s4⟩ := s3.step hr
      clear hr s3
      go_wp2_with fail
      go_ret
      exact s4.ret _

end Go.Proofs.YtngbodmooddjbaaGreat
