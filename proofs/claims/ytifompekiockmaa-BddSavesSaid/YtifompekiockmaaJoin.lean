/-
  Walks: 'join' of the package bdd.
-/
import Derived.Test.YtifompekiockmaaOps
namespace Go.Proofs.Ytifompekiockmaa
open Go.RowKit

namespace Mgr
/-- 'join'. -/
def joinM (M : Mgr) (v lo hi : Nat) : Mgr × Nat :=
  if M.lev v < M.depth lo ∧ M.lev v < M.depth hi then M.put v lo hi
  else build M.n (M.put v 0 1).1 (iteF (M.put v 0 1).1 (M.put v 0 1).2 hi lo)

def joinF (M : Mgr) (v lo hi : Nat) : (Nat → Bool) → Bool := fun a => if a v then M.sem hi a else M.sem lo a

structure JoinSpec (M : Mgr) (v lo hi : Nat) (M' : Mgr) (r : Nat) : Prop where
  wf : M'.WF
  ext : Ext M M'
  st : M'.stored r
  sem : ∀ a, M'.sem r a = joinF M v lo hi a

theorem join_spec {M : Mgr} (h : M.WF) {v lo hi : Nat} (hv : v < M.n) (hl : M.stored lo) (hh : M.stored hi) : JoinSpec M v lo hi (M.joinM v lo hi).1 (M.joinM v lo hi).2 := by
  unfold joinM
  by_cases c : M.lev v < M.depth lo ∧ M.lev v < M.depth hi
  · rw [if_pos c]
    have s := put_spec h hv hl hh c.1 c.2
    exact ⟨s.wf, s.ext, s.st, s.sem⟩
  · rw [if_neg c]
    have s := put_spec h hv (.inl (by omega)) (.inl (by omega)) (lev_lt_const h hv (f := 0) (by omega)) (lev_lt_const h hv (f := 1) (by omega))
    generalize M.put v 0 1 = b at *
    have hr : b.1.Reads (b.1.n - M.n) (iteF b.1 b.2 hi lo) := iteF_reads s.wf s.st (s.ext.stored hh) (s.ext.stored hl) (by rw [s.ext.n]; omega) (by rw [s.ext.n]; omega) (by rw [s.ext.n]; omega)
    have sp := build_spec M.n b.1 s.wf (by rw [s.ext.n]; omega) _ hr
    refine ⟨sp.wf, s.ext.trans sp.ext, sp.st, fun a => ?_⟩
    rw [sp.sem]
    unfold iteF joinF
    rw [s.sem, s.ext.sem h hh, s.ext.sem h hl]
    cases a v <;> simp

theorem joinF_reads {M : Mgr} (h : M.WF) {v lo hi : Nat} (hl : M.stored lo) (hh : M.stored hi) (hv : v < M.n) : M.Reads 0 (joinF M v lo hi) := fun a b hab => by
  unfold joinF
  rw [hab v hv (Nat.zero_le _), sem_reads h hl a b hab, sem_reads h hh a b hab]

/-- How many nodes 'join' makes. -/
theorem join_cost {M : Mgr} (h : M.WF) {v lo hi : Nat} (hv : v < M.n) (hl : M.stored lo) (hh : M.stored hi) {s : Nat} (hs : M.States (joinF M v lo hi) s) : (M.joinM v lo hi).1.nodes.length ≤ M.nodes.length + 1 + M.n * s := by
  unfold joinM
  by_cases c : M.lev v < M.depth lo ∧ M.lev v < M.depth hi
  · rw [if_pos c]
    have := (put_spec h hv hl hh c.1 c.2).len
    omega
  · rw [if_neg c]
    have sp := put_spec h hv (.inl (by omega)) (.inl (by omega)) (lev_lt_const h hv (f := 0) (by omega)) (lev_lt_const h hv (f := 1) (by omega))
    generalize M.put v 0 1 = b at *
    have hr : b.1.Reads (b.1.n - b.1.n) (iteF b.1 b.2 hi lo) := iteF_reads sp.wf sp.st (sp.ext.stored hh) (sp.ext.stored hl) (by omega) (by omega) (by omega)
    have eF : iteF b.1 b.2 hi lo = joinF M v lo hi := by
      funext a
      unfold iteF joinF
      rw [sp.sem, sp.ext.sem h hh, sp.ext.sem h hl]
      cases a v <;> simp
    have c2 := build_cost sp.wf (s := s) (by rw [Nat.sub_self] at hr; exact hr) (by
      rw [eF]
      obtain ⟨st, h1, h2⟩ := hs
      exact ⟨st, h1, fun d a a' e b => by rw [sp.ext.mix, sp.ext.mix]; exact h2 d a a' e b⟩)
    rw [sp.ext.n] at c2
    have := sp.len
    omega
end Mgr

set_option maxRecDepth 100000 in
set_option maxHeartbeats 1000000 in
theorem join_ok {p : Nat} {M : Mgr} {L : Lay} (v lo hi : Nat) {w : World} (R : Rep w p M L) (hv : v < M.n) (hl : M.stored lo) (hh : M.stored hi) (hb : (M.joinM v lo hi).1.nodes.length ≤ big) :
    Calls Try.prog 51 #[ptr p, .int .i64 (v : Int), .int .i64 (lo : Int), .int .i64 (hi : Int)] w (Ret p L w (M.joinM v lo hi).1 (.int .i64 (M.joinM v lo hi).2)) := by
  obtain ⟨F, raw, _⟩ := R.raw
  have hvl : v < M.level.length := by rw [R.wf.len]; exact hv
  obtain ⟨bl, cl, hsl, hcl, hclm, hlc⟩ := ownsRow_nats raw.level v hvl
  have c1 := raw.c1
  rw [hsl] at c1
  unfold natV at hlc
  rw [show M.level.getD v 0 = M.lev v from rfl] at hlc
  have hm := maxLen_val
  have hle : M.level.length ≤ 9223372036854775807 := by omega
  have b1 : (v : Int) < M.level.length := by omega
  have DL := Lib.hid (fun (x : World) (k : Kp No w x) => depth_I lo (R.no k) hl)
  have DH := Lib.hid (fun (x : World) (k : Kp No w x) => depth_I hi (R.no k) hh)
  by_cases c : M.lev v < M.depth lo ∧ M.lev v < M.depth hi
  · have e : M.joinM v lo hi = M.put v lo hi := if_pos c
    rw [e] at hb ⊢
    have PUT := Lib.hid (fun (x : World) (k : Kp No w x) => node_ok v lo hi (R.no k) hv hl hh c.1 c.2 hb)
    have q1 : (M.lev v : Int) < dI M lo := by unfold dI; omega
    have q2 : (M.lev v : Int) < dI M hi := by unfold dI; omega
    have SD := Lib.hid (Sd.start R)
    clear raw hsl hcl hclm hm e c hb R hv hl hh hvl
    generalize M.level.length = nl at *
    generalize (M.lev v : Int) = lv at *
    generalize dI M lo = d1 at *
    generalize dI M hi = d2 at *
    generalize M.put v lo hi = B at *
    go_enter Try.func51, Try.ntmps51
    go_wp2_with fail
    refine (DL.out w (Kp.refl _ _)).mono ?_
    rintro e x ⟨rfl, k1, hx1⟩
    have K1 : Hid (Kp No w x) := Lib.hid (by rw [hx1]; exact Kp.drewN _)
    clear hx1
    go_wp2_with fail
    refine (DH.out x K1.out).mono ?_
    rintro e y ⟨rfl, k2, hx2⟩
    have K2 : Hid (Kp No w y) := Lib.hid (by rw [hx2]; exact K1.out.trans_no (Kp.drewN _))
    clear hx2
    go_wp2_with fail
    refine (PUT.out y K2.out).mono ?_
    intro e z hr
    obtain ⟨rfl, L3, s3⟩ := (SD.out.no K2.out).step hr
    clear hr
    go_wp2_with fail
    go_ret
    exact s3.ret _
  · have e : M.joinM v lo hi = Mgr.build M.n (M.put v 0 1).1 (iteF (M.put v 0 1).1 (M.put v 0 1).2 hi lo) := if_neg c
    have d0 := Mgr.lev_lt_const R.wf hv (f := 0) (by omega)
    have d1 := Mgr.lev_lt_const R.wf hv (f := 1) (by omega)
    have sp := Mgr.put_spec R.wf hv (.inl (by omega)) (.inl (by omega)) d0 d1
    have js := Mgr.build_spec M.n (M.put v 0 1).1 sp.wf (by rw [sp.ext.n]; omega) _ (iteF_reads (d := (M.put v 0 1).1.n - M.n) sp.wf sp.st (sp.ext.stored hh) (sp.ext.stored hl) (by rw [sp.ext.n]; omega) (by rw [sp.ext.n]; omega) (by rw [sp.ext.n]; omega))
    rw [e] at hb ⊢
    have PUT := Lib.hid (fun (x : World) (k : Kp No w x) => node_ok v 0 1 (R.no k) hv (.inl (by omega)) (.inl (by omega)) d0 d1 (Nat.le_trans js.ext.len hb))
    have ITE : Hid (∀ (x : World) (L' : Lay), Rep x p (M.put v 0 1).1 L' → Calls Try.prog 48 #[ptr p, .int .i64 ((M.put v 0 1).2 : Int), .int .i64 (hi : Int), .int .i64 (lo : Int)] x (Ret p L' x (Mgr.build M.n (M.put v 0 1).1 (iteF (M.put v 0 1).1 (M.put v 0 1).2 hi lo)).1 (.int .i64 (Mgr.build M.n (M.put v 0 1).1 (iteF (M.put v 0 1).1 (M.put v 0 1).2 hi lo)).2))) := Lib.hid (fun x L' Rx => by
      have := ite_ok (M.put v 0 1).2 hi lo Rx sp.st (sp.ext.stored hh) (sp.ext.stored hl)
      rw [sp.ext.n] at this
      exact this hb)
    have SD := Lib.hid (Sd.start R)
    have HC : Hid (¬ ((M.lev v : Int) < dI M lo ∧ (M.lev v : Int) < dI M hi)) := Lib.hid (by unfold dI; omega)
    clear raw hsl hcl hclm hm e c hb R hv hl hh hvl sp js d0 d1
    generalize M.level.length = nl at *
    generalize (M.lev v : Int) = lv at *
    generalize dI M lo = d1 at *
    generalize dI M hi = d2 at *
    generalize Mgr.build M.n (M.put v 0 1).1 (iteF (M.put v 0 1).1 (M.put v 0 1).2 hi lo) = C at *
    generalize M.put v 0 1 = B at *
    by_cases q1 : lv < d1
    · have q2 : ¬ lv < d2 := fun h => HC.out ⟨q1, h⟩
      have q2' : decide (lv < d2) = false := decide_eq_false q2
      go_enter Try.func51, Try.ntmps51
      go_wp2_with fail
      refine (DL.out w (Kp.refl _ _)).mono ?_
      rintro e x ⟨rfl, k1, hx1⟩
      have K1 : Hid (Kp No w x) := Lib.hid (by rw [hx1]; exact Kp.drewN _)
      clear hx1
      go_wp2_with fail
      refine (DH.out x K1.out).mono ?_
      rintro e y ⟨rfl, k2, hx2⟩
      have K2 : Hid (Kp No w y) := Lib.hid (by rw [hx2]; exact K1.out.trans_no (Kp.drewN _))
      clear hx2
      go_wp2_with fail
      refine (PUT.out y K2.out).mono ?_
      intro e z hr
      obtain ⟨rfl, L3, s3⟩ := (SD.out.no K2.out).step hr
      clear hr
      go_wp2_with fail
      refine (ITE.out z L3 s3.rep).mono ?_
      intro e z2 hr
      obtain ⟨rfl, L4, s4⟩ := s3.step hr
      clear hr s3
      go_wp2_with fail
      go_ret
      exact s4.ret _
    · have q1' : decide (lv < d1) = false := decide_eq_false q1
      go_enter Try.func51, Try.ntmps51
      go_wp2_with fail
      refine (DL.out w (Kp.refl _ _)).mono ?_
      rintro e x ⟨rfl, k1, hx1⟩
      have K1 : Hid (Kp No w x) := Lib.hid (by rw [hx1]; exact Kp.drewN _)
      clear hx1
      go_wp2_with fail
      refine (PUT.out x K1.out).mono ?_
      intro e z hr
      obtain ⟨rfl, L3, s3⟩ := (SD.out.no K1.out).step hr
      clear hr
      go_wp2_with fail
      refine (ITE.out z L3 s3.rep).mono ?_
      intro e z2 hr
      obtain ⟨rfl, L4, s4⟩ := s3.step hr
      clear hr s3
      go_wp2_with fail
      go_ret
      exact s4.ret _

end Go.Proofs.Ytifompekiockmaa
