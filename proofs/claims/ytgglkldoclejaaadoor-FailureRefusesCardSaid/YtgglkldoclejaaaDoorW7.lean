/-
  Walks: 'Ite', 'Not', 'And', 'Or', 'Xor', 'Var' of the package bdd.
-/
import Derived.Test.YtgglkldoclejaaaDoorW6
namespace Go.Proofs.YtgglkldoclejaaaDoor
open Go.RowKit

namespace Mgr
def iteM (M : Mgr) (f g h : Int) : Mgr × Int :=
  if M.valid f = true ∧ M.valid g = true ∧ M.valid h = true then
    let b := build M.n M (iteF M f.toNat g.toNat h.toNat)
    (b.1.show b.2, (b.2 : Int))
  else (M, -1)
def notM (M : Mgr) (f : Int) : Mgr × Int := M.iteM f 0 1
def andM (M : Mgr) (f g : Int) : Mgr × Int := M.iteM f g 0
def orM (M : Mgr) (f g : Int) : Mgr × Int := M.iteM f 1 g
def xorM (M : Mgr) (f g : Int) : Mgr × Int :=
  if M.valid f = true ∧ M.valid g = true then
    let b := build M.n M (iteF M g.toNat 0 1)
    let c := build M.n b.1 (iteF b.1 f.toNat b.2 g.toNat)
    (c.1.show c.2, (c.2 : Int))
  else (M, -1)
def varM (M : Mgr) (v : Int) : Mgr × Int :=
  if 0 ≤ v ∧ v < M.n then
    let b := M.put v.toNat 0 1
    (b.1.show b.2, (b.2 : Int))
  else (M, -1)

theorem valid_nat {M : Mgr} (h : M.WF) {f : Int} (hf : M.valid f = true) : ∃ n : Nat, f = (n : Int) ∧ M.stored n ∧ M.vis n = true := by
  unfold valid at hf
  simp only [Bool.and_eq_true, decide_eq_true_eq] at hf
  refine ⟨f.toNat, by omega, h.shst _ hf.2, hf.2⟩

theorem lev_lt_const {M : Mgr} (h : M.WF) {v f : Nat} (hv : v < M.n) (hf : f < 2) : M.lev v < M.depth f := by
  rw [M.depth_const hf]; exact (h.ol v hv).1
end Mgr

theorem Ret.same {p : Nat} {M : Mgr} {L : Lay} {w : World} {v : Value} (R : Rep w p M L) : Ret p L w M v (.returned v) w := ⟨L, rfl, R, Kp.refl _ _, fun _ h => .inl h⟩

/-- A state on the way. -/
structure Sd (w0 : World) (p : Nat) (L0 : Lay) (w : World) (M : Mgr) (L : Lay) : Prop where
  rep : Rep w p M L
  kp : Kp (L0.at p) w0 w
  fr : Fresh (L0.at p) (L.at p) w0
theorem Sd.start {w : World} {p : Nat} {M : Mgr} {L : Lay} (R : Rep w p M L) : Sd w p L w M L := ⟨R, Kp.refl _ _, fun _ h => .inl h⟩
theorem Sd.no {w0 : World} {p : Nat} {L0 : Lay} {w w' : World} {M : Mgr} {L : Lay} (s : Sd w0 p L0 w M L) (h : Kp No w w') : Sd w0 p L0 w' M L := ⟨s.rep.no h, s.kp.trans_no h, s.fr⟩
theorem Sd.step {w0 : World} {p : Nat} {L0 : Lay} {w w' : World} {M M' : Mgr} {L : Lay} {v : Value} {e : Ending} (s : Sd w0 p L0 w M L) (h : Ret p L w M' v e w') : e = .returned v ∧ ∃ L', Sd w0 p L0 w' M' L' := by
  obtain ⟨L', he, r, k, f⟩ := h
  refine ⟨he, L', r, s.kp.trans s.fr k, fun x hx => ?_⟩
  rcases f x hx with h1 | h1
  · exact s.fr x h1
  · right; have := s.kp.size; omega
theorem Sd.ret {w0 : World} {p : Nat} {L0 : Lay} {w : World} {M : Mgr} {L : Lay} (s : Sd w0 p L0 w M L) (v : Value) : Ret p L0 w0 M v (.returned v) w := ⟨L, rfl, s.rep, s.kp, s.fr⟩

set_option maxHeartbeats 400000 in
theorem Ite_ok {p : Nat} {M : Mgr} {L : Lay} (f g h : Int) {w : World} (R : Rep w p M L) (hb : (M.iteM f g h).1.nodes.length ≤ big) :
    Calls Tryd.prog 69 #[ptr p, .int .i64 f, .int .i64 g, .int .i64 h] w (Ret p L w (M.iteM f g h).1 (.int .i64 (M.iteM f g h).2)) := by
  by_cases hf : M.valid f = true
  · by_cases hg : M.valid g = true
    · by_cases hh : M.valid h = true
      · have e : M.iteM f g h = _ := if_pos ⟨hf, hg, hh⟩
        obtain ⟨f, rfl, sf, _⟩ := Mgr.valid_nat R.wf hf
        obtain ⟨g, rfl, sg, _⟩ := Mgr.valid_nat R.wf hg
        obtain ⟨h, rfl, sh, _⟩ := Mgr.valid_nat R.wf hh
        rw [e] at hb ⊢
        simp only [Int.toNat_natCast] at hb ⊢
        have sp := Mgr.build_spec M.n M R.wf (Nat.le_refl _) _ (iteF_reads R.wf sf sg sh (by omega) (by omega) (by omega))
        have hc := ite_ok f g h R sf sg sh hb
        generalize Mgr.build M.n M (iteF M f g h) = b at *
        have HC := Lib.hid hc
        have HS := Lib.hid sp.st
        have SF := Lib.hid hf
        have SG := Lib.hid hg
        have SH := Lib.hid hh
        clear hc hb e sp hf hg hh
        go_enter Tryd.func69, Tryd.ntmps69
        go_wp2_with fail
        refine (valid_as _ true R SF.out).mono ?_
        rintro e w' ⟨rfl, rfl⟩
        go_wp2_with fail
        refine (valid_as _ true R SG.out).mono ?_
        rintro e w' ⟨rfl, rfl⟩
        go_wp2_with fail
        refine (valid_as _ true R SH.out).mono ?_
        rintro e w' ⟨rfl, rfl⟩
        go_wp2_with fail
        refine HC.out.mono ?_
        intro e w1 h1
        obtain ⟨rfl, L1, s1⟩ := (Sd.start R).step h1
        clear h1
        go_wp2_with fail
        refine (show_ok b.2 s1.rep HS.out).mono ?_
        intro e w2 h2
        obtain ⟨rfl, L2, s2⟩ := s1.step h2
        clear h2 s1
        go_wp2_with fail
        go_ret
        exact s2.ret _
      · have e : M.iteM f g h = (M, -1) := if_neg (fun x => hh x.2.2)
        rw [e]
        have SF := Lib.hid hf
        have SG := Lib.hid hg
        have SH : Hid (M.valid h = false) := Lib.hid (by simpa using hh)
        clear hf hg hh e hb
        go_enter Tryd.func69, Tryd.ntmps69
        go_wp2_with fail
        refine (valid_as _ true R SF.out).mono ?_
        rintro e w' ⟨rfl, rfl⟩
        go_wp2_with fail
        refine (valid_as _ true R SG.out).mono ?_
        rintro e w' ⟨rfl, rfl⟩
        go_wp2_with fail
        refine (valid_as _ false R SH.out).mono ?_
        rintro e w' ⟨rfl, rfl⟩
        go_wp2_with fail
        go_ret
        exact Ret.same R
    · have e : M.iteM f g h = (M, -1) := if_neg (fun x => hg x.2.1)
      rw [e]
      have SF := Lib.hid hf
      have SG : Hid (M.valid g = false) := Lib.hid (by simpa using hg)
      clear hf hg e hb
      go_enter Tryd.func69, Tryd.ntmps69
      go_wp2_with fail
      refine (valid_as _ true R SF.out).mono ?_
      rintro e w' ⟨rfl, rfl⟩
      go_wp2_with fail
      refine (valid_as _ false R SG.out).mono ?_
      rintro e w' ⟨rfl, rfl⟩
      go_wp2_with fail
      go_ret
      exact Ret.same R
  · have e : M.iteM f g h = (M, -1) := if_neg (fun x => hf x.1)
    rw [e]
    have SF : Hid (M.valid f = false) := Lib.hid (by simpa using hf)
    clear hf e hb
    go_enter Tryd.func69, Tryd.ntmps69
    go_wp2_with fail
    refine (valid_as _ false R SF.out).mono ?_
    rintro e w' ⟨rfl, rfl⟩
    go_wp2_with fail
    go_ret
    exact Ret.same R

set_option maxHeartbeats 400000 in
theorem Not_ok {p : Nat} {M : Mgr} {L : Lay} (f : Int) {w : World} (R : Rep w p M L) (hb : (M.notM f).1.nodes.length ≤ big) :
    Calls Tryd.prog 55 #[ptr p, .int .i64 f] w (Ret p L w (M.notM f).1 (.int .i64 (M.notM f).2)) := by
  have hc := Lib.hid (Ite_ok f 0 1 R hb)
  clear hb
  go_enter Tryd.func55, Tryd.ntmps55
  go_wp2_with fail
  refine hc.out.mono ?_
  intro e w1 h1
  obtain ⟨rfl, L1, s1⟩ := (Sd.start R).step h1
  clear h1
  go_wp2_with fail
  go_ret
  exact s1.ret _

set_option maxHeartbeats 400000 in
theorem And_ok {p : Nat} {M : Mgr} {L : Lay} (f g : Int) {w : World} (R : Rep w p M L) (hb : (M.andM f g).1.nodes.length ≤ big) :
    Calls Tryd.prog 54 #[ptr p, .int .i64 f, .int .i64 g] w (Ret p L w (M.andM f g).1 (.int .i64 (M.andM f g).2)) := by
  have hc := Lib.hid (Ite_ok f g 0 R hb)
  clear hb
  go_enter Tryd.func54, Tryd.ntmps54
  go_wp2_with fail
  refine hc.out.mono ?_
  intro e w1 h1
  obtain ⟨rfl, L1, s1⟩ := (Sd.start R).step h1
  clear h1
  go_wp2_with fail
  go_ret
  exact s1.ret _

set_option maxHeartbeats 400000 in
theorem Or_ok {p : Nat} {M : Mgr} {L : Lay} (f g : Int) {w : World} (R : Rep w p M L) (hb : (M.orM f g).1.nodes.length ≤ big) :
    Calls Tryd.prog 51 #[ptr p, .int .i64 f, .int .i64 g] w (Ret p L w (M.orM f g).1 (.int .i64 (M.orM f g).2)) := by
  have hc := Lib.hid (Ite_ok f 1 g R hb)
  clear hb
  go_enter Tryd.func51, Tryd.ntmps51
  go_wp2_with fail
  refine hc.out.mono ?_
  intro e w1 h1
  obtain ⟨rfl, L1, s1⟩ := (Sd.start R).step h1
  clear h1
  go_wp2_with fail
  go_ret
  exact s1.ret _

set_option maxHeartbeats 400000 in
theorem Xor_ok {p : Nat} {M : Mgr} {L : Lay} (f g : Int) {w : World} (R : Rep w p M L) (hb : (M.xorM f g).1.nodes.length ≤ big) :
    Calls Tryd.prog 64 #[ptr p, .int .i64 f, .int .i64 g] w (Ret p L w (M.xorM f g).1 (.int .i64 (M.xorM f g).2)) := by
  by_cases hf : M.valid f = true
  · by_cases hg : M.valid g = true
    · have e : M.xorM f g = _ := if_pos ⟨hf, hg⟩
      obtain ⟨f, rfl, sf, _⟩ := Mgr.valid_nat R.wf hf
      obtain ⟨g, rfl, sg, _⟩ := Mgr.valid_nat R.wf hg
      rw [e] at hb ⊢
      simp only [Int.toNat_natCast] at hb ⊢
      have s0 : M.stored 0 := .inl (by omega)
      have s1 : M.stored 1 := .inl (by omega)
      have sp := Mgr.build_spec M.n M R.wf (Nat.le_refl _) _ (iteF_reads R.wf sg s0 s1 (by omega) (by omega) (by omega))
      have hc := fun hb => ite_ok g 0 1 R sg s0 s1 hb
      generalize Mgr.build M.n M (iteF M g 0 1) = b at *
      have sq := Mgr.build_spec M.n b.1 sp.wf (by rw [sp.ext.n]; omega) _ (iteF_reads sp.wf (sp.ext.stored sf) sp.st (sp.ext.stored sg) (by rw [sp.ext.n]; omega) (by rw [sp.ext.n]; omega) (by rw [sp.ext.n]; omega))
      have hd : ∀ (L1 : Lay) (w1 : World), Rep w1 p b.1 L1 → Calls Tryd.prog 80 #[ptr p, .int .i64 f, .int .i64 b.2, .int .i64 g] w1 (Ret p L1 w1 (Mgr.build M.n b.1 (iteF b.1 f b.2 g)).1 (.int .i64 (Mgr.build M.n b.1 (iteF b.1 f b.2 g)).2)) := fun L1 w1 R1 => by
        have := ite_ok f b.2 g R1 (sp.ext.stored sf) sp.st (sp.ext.stored sg)
        rw [sp.ext.n] at this
        exact this hb
      generalize Mgr.build M.n b.1 (iteF b.1 f b.2 g) = c at *
      have HC := Lib.hid (hc (Nat.le_trans sq.ext.len hb))
      have HD := Lib.hid hd
      have HS := Lib.hid sq.st
      have SF := Lib.hid hf
      have SG := Lib.hid hg
      clear hc hd hb e sp sq hf hg sf sg s0 s1
      go_enter Tryd.func64, Tryd.ntmps64
      go_wp2_with fail
      refine (valid_as _ true R SF.out).mono ?_
      rintro e w' ⟨rfl, rfl⟩
      go_wp2_with fail
      refine (valid_as _ true R SG.out).mono ?_
      rintro e w' ⟨rfl, rfl⟩
      go_wp2_with fail
      refine HC.out.mono ?_
      intro e w1 h1
      obtain ⟨rfl, L1, s1⟩ := (Sd.start R).step h1
      clear h1
      go_wp2_with fail
      refine (HD.out L1 w1 s1.rep).mono ?_
      intro e w2 h2
      obtain ⟨rfl, L2, s2⟩ := s1.step h2
      clear h2 s1
      go_wp2_with fail
      refine (show_ok c.2 s2.rep HS.out).mono ?_
      intro e w3 h3
      obtain ⟨rfl, L3, s3⟩ := s2.step h3
      clear h3 s2
      go_wp2_with fail
      go_ret
      exact s3.ret _
    · have e : M.xorM f g = (M, -1) := if_neg (fun x => hg x.2)
      rw [e]
      have SF := Lib.hid hf
      have SG : Hid (M.valid g = false) := Lib.hid (by simpa using hg)
      clear hf hg e hb
      go_enter Tryd.func64, Tryd.ntmps64
      go_wp2_with fail
      refine (valid_as _ true R SF.out).mono ?_
      rintro e w' ⟨rfl, rfl⟩
      go_wp2_with fail
      refine (valid_as _ false R SG.out).mono ?_
      rintro e w' ⟨rfl, rfl⟩
      go_wp2_with fail
      go_ret
      exact Ret.same R
  · have e : M.xorM f g = (M, -1) := if_neg (fun x => hf x.1)
    rw [e]
    have SF : Hid (M.valid f = false) := Lib.hid (by simpa using hf)
    clear hf e hb
    go_enter Tryd.func64, Tryd.ntmps64
    go_wp2_with fail
    refine (valid_as _ false R SF.out).mono ?_
    rintro e w' ⟨rfl, rfl⟩
    go_wp2_with fail
    go_ret
    exact Ret.same R

set_option maxHeartbeats 400000 in
theorem Var_ok {p : Nat} {M : Mgr} {L : Lay} (v : Int) {w : World} (R : Rep w p M L) (hb : (M.varM v).1.nodes.length ≤ big) :
    Calls Tryd.prog 62 #[ptr p, .int .i64 v] w (Ret p L w (M.varM v).1 (.int .i64 (M.varM v).2)) := by
  by_cases hv : 0 ≤ v ∧ v < M.n
  · have e : M.varM v = _ := if_pos hv
    obtain ⟨v, rfl⟩ := Int.eq_ofNat_of_zero_le hv.1
    rw [e] at hb ⊢
    simp only [Int.toNat_natCast] at hb ⊢
    have hvn : v < M.n := by omega
    have d0 := Mgr.lev_lt_const R.wf hvn (f := 0) (by omega)
    have d1 := Mgr.lev_lt_const R.wf hvn (f := 1) (by omega)
    have sp := Mgr.put_spec R.wf hvn (.inl (by omega)) (.inl (by omega)) d0 d1
    have hc := node_ok v 0 1 R hvn (.inl (by omega)) (.inl (by omega)) d0 d1 hb
    generalize M.put v 0 1 = b at *
    have HC := Lib.hid hc
    have HS := Lib.hid sp.st
    have HV := Lib.hid hv
    clear hc hb e sp hv d0 d1 hvn
    go_enter Tryd.func62, Tryd.ntmps62
    go_wp2_with fail
    refine (variable_as _ true R (by simpa using HV.out)).mono ?_
    rintro e w' ⟨rfl, rfl⟩
    go_wp2_with fail
    refine HC.out.mono ?_
    intro e w1 h1
    obtain ⟨rfl, L1, s1⟩ := (Sd.start R).step h1
    clear h1
    go_wp2_with fail
    refine (show_ok b.2 s1.rep HS.out).mono ?_
    intro e w2 h2
    obtain ⟨rfl, L2, s2⟩ := s1.step h2
    clear h2 s1
    go_wp2_with fail
    go_ret
    exact s2.ret _
  · have e : M.varM v = (M, -1) := if_neg hv
    rw [e]
    have HV : Hid (decide (0 ≤ v ∧ v < (M.n : Int)) = false) := Lib.hid (by simpa using hv)
    clear hv e hb
    go_enter Tryd.func62, Tryd.ntmps62
    go_wp2_with fail
    refine (variable_as _ false R HV.out).mono ?_
    rintro e w' ⟨rfl, rfl⟩
    go_wp2_with fail
    go_ret
    exact Ret.same R

end Go.Proofs.YtgglkldoclejaaaDoor
