/-
  The operations of a manager of any number of variables in the plain order, told by the functions that the Refs denote; the nodes are counted by the functions' cofactors.
-/
import Derived.Test.YtngbodmooddjbaaOps
import Derived.Test.YtngbodmooddjbaaW10
import Derived.Test.YtngbodmooddjbaaBdd
namespace Go.Proofs.Ytngbodmooddjbaa
open Go.RowKit

/-- f with variable v fixed to b. -/
def resF (M : Mgr) (f v : Nat) (b : Bool) : (Nat → Bool) → Bool := fun a => M.sem f (Mgr.upd a v b)

theorem resF_reads {M : Mgr} (wf : M.WF) {f v d : Nat} {b : Bool} (hf : M.stored f) (hd : d ≤ M.depth f) : M.Reads d (resF M f v b) := by
  intro x y hxy
  unfold resF
  refine Mgr.sem_agree wf _ f hf (Nat.le_refl _) _ _ (fun u hu hdu => ?_)
  by_cases e : u = v
  · subst e; simp
  · rw [Mgr.upd_other _ _ _ _ e, Mgr.upd_other _ _ _ _ e]; exact hxy u hu (by omega)

/-- What the memo of 'restrict' holds is right. -/
def RSound (M : Mgr) (v : Nat) (b : Bool) (K : Int → Option Nat) : Prop := ∀ x r, K x = some r → ∃ f : Nat, x = (f : Int) ∧ M.stored f ∧ M.stored r ∧ ∀ a, M.sem r a = resF M f v b a

theorem RSound.ext {M M' : Mgr} {v : Nat} {b : Bool} {K : Int → Option Nat} (h : M.WF) (s : RSound M v b K) (e : Mgr.Ext M M') : RSound M' v b K := by
  intro x r hr
  obtain ⟨f, hx, sf, sr, hs⟩ := s x r hr
  exact ⟨f, hx, e.stored sf, e.stored sr, fun a => by unfold resF; rw [e.sem h sr, e.sem h sf]; exact hs a⟩

structure RPlan (M : Mgr) (f v : Nat) (b : Bool) (k j : Nat) (A B : Mgr × Nat) : Prop where
  hj : j < k
  jn : j ≤ M.n
  x0 : ∃ x : Nat, (M.nd f).1 = (x : Int)
  sl : M.stored (M.nd f).2.1
  sh : M.stored (M.nd f).2.2
  dl : M.n - j ≤ M.depth (M.nd f).2.1
  dh : M.n - j ≤ M.depth (M.nd f).2.2
  eA : A = Mgr.build j M (resF M (M.nd f).2.1 v b)
  sA : M.BuildSpec (M.n - j) (resF M (M.nd f).2.1 v b) A.1 A.2
  eB : B = Mgr.build j A.1 (resF A.1 (M.nd f).2.2 v b)
  sB : A.1.BuildSpec (A.1.n - j) (resF A.1 (M.nd f).2.2 v b) B.1 B.2
  vn : (M.nd f).1.toNat < B.1.n
  dA : B.1.lev (M.nd f).1.toNat < B.1.depth A.2
  dB : B.1.lev (M.nd f).1.toNat < B.1.depth B.2
  fin : Mgr.build k M (resF M f v b) = B.1.put (M.nd f).1.toNat A.2 B.2
  lA : A.1.nodes.length ≤ (B.1.put (M.nd f).1.toNat A.2 B.2).1.nodes.length
  lB : B.1.nodes.length ≤ (B.1.put (M.nd f).1.toNat A.2 B.2).1.nodes.length
  sem : ∀ a, (B.1.put (M.nd f).1.toNat A.2 B.2).1.sem (B.1.put (M.nd f).1.toNat A.2 B.2).2 a = resF M f v b a
  st : (B.1.put (M.nd f).1.toNat A.2 B.2).1.stored (B.1.put (M.nd f).1.toNat A.2 B.2).2
  ext : M.Ext (B.1.put (M.nd f).1.toNat A.2 B.2).1
  ext2 : B.1.Ext (B.1.put (M.nd f).1.toNat A.2 B.2).1

theorem rplan {M : Mgr} (wf : M.WF) {f v k : Nat} (b : Bool) (sf : M.stored f) (h2 : 2 ≤ f) (hk : k ≤ M.n) (df : M.n - k ≤ M.depth f) (hv : M.depth f < M.lev v) : ∃ j A B, RPlan M f v b k j A B := by
  have hdf := M.depth_lt wf sf h2
  obtain ⟨v0, v1, sl, sh, _, dl, dh⟩ := Mgr.node_of wf sf h2
  have hd : M.depth f = M.lev (M.nd f).1.toNat := by unfold Mgr.depth; rw [if_neg (by omega)]
  have hne : (M.nd f).1.toNat ≠ v := fun e => by rw [e] at hd; omega
  have hord : M.ord (M.depth f) = (M.nd f).1.toNat := by rw [hd]; exact (wf.ol _ (by omega)).2
  obtain ⟨j, hj⟩ : ∃ j, j + 1 + M.depth f = M.n := ⟨M.n - (M.depth f + 1), by omega⟩
  have hni : M.n - (j + 1) = M.depth f := by omega
  have rA : M.Reads (M.n - j) (resF M (M.nd f).2.1 v b) := resF_reads wf sl (by omega)
  have sA := Mgr.build_spec j M wf (by omega) _ rA
  generalize hA : Mgr.build j M (resF M (M.nd f).2.1 v b) = A at sA
  have nA := sA.ext.n
  have rB : A.1.Reads (A.1.n - j) (resF A.1 (M.nd f).2.2 v b) := resF_reads sA.wf (sA.ext.stored sh) (by rw [sA.ext.depth sh]; omega)
  have sB := Mgr.build_spec j A.1 sA.wf (by omega) _ rB
  generalize hB : Mgr.build j A.1 (resF A.1 (M.nd f).2.2 v b) = B at sB
  have nB := sB.ext.n
  have lv : B.1.lev (M.nd f).1.toNat = M.depth f := by rw [sB.ext.lev, sA.ext.lev, ← hd]
  have q1 := sA.dep
  have q2 := sB.dep
  have dA : B.1.lev (M.nd f).1.toNat < B.1.depth A.2 := by rw [lv, sB.ext.depth sA.st]; omega
  have dB : B.1.lev (M.nd f).1.toNat < B.1.depth B.2 := by rw [lv]; omega
  have hvn : (M.nd f).1.toNat < B.1.n := by omega
  have ps := Mgr.put_spec sB.wf hvn (sB.ext.stored sA.st) sB.st dA dB
  have comm : ∀ (a : Nat → Bool) (c : Bool), Mgr.upd (Mgr.upd a v b) (M.nd f).1.toNat c = Mgr.upd (Mgr.upd a (M.nd f).1.toNat c) v b := fun a c => by
    funext u
    unfold Mgr.upd
    by_cases e1 : u = v
    · subst e1; rw [if_neg (Ne.symm hne)]; simp
    · by_cases e2 : u = (M.nd f).1.toNat
      · simp [e2, hne]
      · simp [e1, e2]
  have e0 : resF M (M.nd f).2.1 v b = fun a => resF M f v b (Mgr.upd a (M.nd f).1.toNat false) := by
    funext a; unfold resF; rw [Mgr.sem_lo wf sf h2, comm]
  have e1 : resF A.1 (M.nd f).2.2 v b = fun a => resF M f v b (Mgr.upd a (M.nd f).1.toNat true) := by
    funext a; unfold resF; rw [sA.ext.sem wf sh, Mgr.sem_hi wf sf h2, comm]
  have fin : Mgr.build k M (resF M f v b) = B.1.put (M.nd f).1.toNat A.2 B.2 := by
    obtain ⟨d, hd'⟩ : ∃ d, k = (j + 1) + d := ⟨k - (j + 1), by omega⟩
    rw [hd', Mgr.build_skips wf d (by omega) (resF_reads wf sf (by omega))]
    unfold Mgr.build
    simp only [hni, hord]
    rw [← e0, hA, ← e1, hB]
  have sF := Mgr.build_spec k M wf hk _ (resF_reads (v := v) (b := b) wf sf df)
  rw [fin] at sF
  exact ⟨j, A, B, ⟨by omega, by omega, Int.eq_ofNat_of_zero_le v0, sl, sh, by omega, by omega, hA.symm, sA, hB.symm, sB, hvn, dA, dB, fin, Nat.le_trans sB.ext.len ps.ext.len, ps.ext.len, sF.sem, sF.st, sF.ext, ps.ext⟩⟩

/-- A state on the way, with the memo at bs. -/
structure Sm (w0 : World) (p : Nat) (L0 : Lay) (bs v : Nat) (b : Bool) (w : World) (M : Mgr) (L : Lay) : Prop where
  rep : Rep w p M L
  kp : Kp (fun x => L0.at p x ∨ x = bs) w0 w
  fr : Fresh (L0.at p) (L.at p) w0
  map : ∃ K, MapAs w bs intV natV K ∧ RSound M v b K
  nb : ¬ L.at p bs

theorem Sm.no {w0 : World} {p : Nat} {L0 : Lay} {bs v : Nat} {b : Bool} {w w' : World} {M : Mgr} {L : Lay} (s : Sm w0 p L0 bs v b w M L) (h : Kp No w w') : Sm w0 p L0 bs v b w' M L := by
  obtain ⟨K, m, sd⟩ := s.map
  exact ⟨s.rep.no h, s.kp.trans_no h, s.fr, ⟨K, m.kp h (fun x => x), sd⟩, s.nb⟩

/-- What 'restrict' leaves. -/
def MPost (p : Nat) (L : Lay) (bs v : Nat) (b : Bool) (w : World) (M' : Mgr) (r : Value) (e : Ending) (w' : World) : Prop := ∃ L', e = .returned r ∧ Sm w p L bs v b w' M' L'

theorem Sm.trans {w0 w w' : World} {p : Nat} {L0 L L' : Lay} {bs v : Nat} {b : Bool} {M M' : Mgr} (s : Sm w0 p L0 bs v b w M L) (t : Sm w p L bs v b w' M' L') : Sm w0 p L0 bs v b w' M' L' := by
  refine ⟨t.rep, s.kp.trans (A' := fun x => L.at p x ∨ x = bs) (fun x hx => ?_) t.kp, fun x hx => ?_, t.map, t.nb⟩
  · rcases hx with hx | hx
    · rcases s.fr x hx with h | h
      · exact .inl (.inl h)
      · exact .inr h
    · exact .inl (.inr hx)
  · rcases t.fr x hx with h | h
    · exact s.fr x h
    · right; have := s.kp.size; omega

theorem Sm.step {w0 w w' : World} {p : Nat} {L0 L : Lay} {bs v : Nat} {b : Bool} {M M' : Mgr} {r : Value} {e : Ending} (s : Sm w0 p L0 bs v b w M L) (x : Mgr.Ext M M') (h : Ret p L w M' r e w') : e = .returned r ∧ ∃ L', Sm w0 p L0 bs v b w' M' L' := by
  obtain ⟨L', he, rep, k, f⟩ := h
  obtain ⟨K, m, sd⟩ := s.map
  refine ⟨he, L', rep, s.kp.trans (A' := fun x => L.at p x ∨ x = bs) (fun y hy => ?_) (k.mono (fun y _ hy => .inl hy)), fun y hy => ?_, ⟨K, m.kp k s.nb, sd.ext s.rep.wf x⟩, fun hb => ?_⟩
  · rcases hy with hy | hy
    · rcases s.fr y hy with h | h
      · exact .inl (.inl h)
      · exact .inr h
    · exact .inl (.inr hy)
  · rcases f y hy with h | h
    · exact s.fr y h
    · right; have := s.kp.size; omega
  · rcases f bs hb with h | h
    · exact s.nb h
    · have := m.lt; omega

theorem Sm.start {w : World} {p : Nat} {L : Lay} {bs v : Nat} {b : Bool} {M : Mgr} {K : Int → Option Nat} (R : Rep w p M L) (m : MapAs w bs intV natV K) (sd : RSound M v b K) (nb : ¬ L.at p bs) : Sm w p L bs v b w M L :=
  ⟨R, Kp.refl _ _, fun _ h => .inl h, ⟨K, m, sd⟩, nb⟩

theorem Kp.no_trans_or {A : Nat → Prop} {w w1 w2 : World} (h : Kp No w w1) (k : Kp (fun x => A x ∨ x = w.heap.size) w1 w2) : Kp A w w2 :=
  (h.no_trans k).mono (fun x hx hA => hA.resolve_right (by omega))

/-- The same with a box of the call's own. -/
structure Sb (w0 : World) (p : Nat) (L0 : Lay) (bs v : Nat) (b : Bool) (B : Nat) (bx : Obj) (w : World) (M : Mgr) (L : Lay) : Prop where
  sm : Sm w0 p L0 bs v b w M L
  box : w.heap[B]? = some bx
  bn : ¬ L.at p B
  bb : B ≠ bs

theorem Sb.no {w0 : World} {p : Nat} {L0 : Lay} {bs v : Nat} {b : Bool} {B : Nat} {bx : Obj} {w w' : World} {M : Mgr} {L : Lay} (s : Sb w0 p L0 bs v b B bx w M L) (h : Kp No w w') : Sb w0 p L0 bs v b B bx w' M L :=
  ⟨s.sm.no h, by rw [h.block B (heap_lt s.box) (fun x => x)]; exact s.box, s.bn, s.bb⟩

theorem Sb.trans {w0 w w' : World} {p : Nat} {L0 L : Lay} {bs v : Nat} {b : Bool} {B : Nat} {bx : Obj} {M M' : Mgr} {r : Value} {e : Ending} (s : Sb w0 p L0 bs v b B bx w M L) (h : MPost p L bs v b w M' r e w') :
    e = .returned r ∧ ∃ L', Sb w0 p L0 bs v b B bx w' M' L' := by
  obtain ⟨L', he, t⟩ := h
  have hl := heap_lt s.box
  refine ⟨he, L', s.sm.trans t, ?_, fun hb => ?_, s.bb⟩
  · rw [t.kp.block B hl (fun x => by rcases x with x | x; exact s.bn x; exact s.bb x)]; exact s.box
  · rcases t.fr B hb with h | h
    · exact s.bn h
    · omega

theorem Sb.step {w0 w w' : World} {p : Nat} {L0 L : Lay} {bs v : Nat} {b : Bool} {B : Nat} {bx : Obj} {M M' : Mgr} {r : Value} {e : Ending} (s : Sb w0 p L0 bs v b B bx w M L) (x : Mgr.Ext M M') (h : Ret p L w M' r e w') :
    e = .returned r ∧ ∃ L', Sb w0 p L0 bs v b B bx w' M' L' := by
  have h' := h
  obtain ⟨L', he, rep, k, f⟩ := h'
  obtain ⟨K, m, sd⟩ := s.sm.map
  have hl := heap_lt s.box
  refine ⟨he, L', ⟨rep, s.sm.kp.trans (A' := fun x => L.at p x ∨ x = bs) (fun y hy => ?_) (k.mono (fun y _ hy => .inl hy)), fun y hy => ?_, ⟨K, m.kp k s.sm.nb, sd.ext s.sm.rep.wf x⟩, fun hb => ?_⟩, ?_, fun hb => ?_, s.bb⟩
  · rcases hy with hy | hy
    · rcases s.sm.fr y hy with h | h
      · exact .inl (.inl h)
      · exact .inr h
    · exact .inl (.inr hy)
  · rcases f y hy with h | h
    · exact s.sm.fr y h
    · right; have := s.sm.kp.size; omega
  · rcases f bs hb with h | h
    · exact s.sm.nb h
    · have := m.lt; omega
  · rw [k.block B hl s.bn]; exact s.box
  · rcases f B hb with h | h
    · exact s.bn h
    · omega

/-- The answer is there already. -/
theorem MPost.there {p : Nat} {M : Mgr} {L : Lay} {bs v : Nat} {b : Bool} {w w' : World} (s : Sm w p L bs v b w' M L) {k : Nat} (hk : k ≤ M.n) {F : (Nat → Bool) → Bool} (hF : M.Reads (M.n - k) F) {r : Nat} (hr : M.stored r) (e : ∀ a, M.sem r a = F a) :
    MPost p L bs v b w (Mgr.build k M F).1 (.int .i64 (Mgr.build k M F).2) (.returned (.int .i64 r)) w' := by
  rw [Mgr.build_there k M s.rep.wf hk F hF r hr e]
  exact ⟨L, rfl, s⟩

set_option maxRecDepth 100000 in
set_option maxHeartbeats 2000000 in
theorem restrict_step {k : Nat}
    (ih : ∀ (p : Nat) (M : Mgr) (L : Lay) (f v : Nat) (b : Bool) (bs : Nat) (w : World) (j : Nat), j < k → Sm w p L bs v b w M L → M.stored f → v < M.n → j ≤ M.n → M.n - j ≤ M.depth f → (Mgr.build j M (resF M f v b)).1.nodes.length ≤ big →
      Calls Try.prog 106 #[ptr p, .int .i64 f, .int .i64 v, .bool b, .map (some bs)] w (MPost p L bs v b w (Mgr.build j M (resF M f v b)).1 (.int .i64 (Mgr.build j M (resF M f v b)).2)))
    {p : Nat} {M : Mgr} {L : Lay} (f v : Nat) (b : Bool) {bs : Nat} {w : World} (s0 : Sm w p L bs v b w M L) (hf : M.stored f) (hv : v < M.n) (hk : k ≤ M.n) (df : M.n - k ≤ M.depth f)
    (hb : (Mgr.build k M (resF M f v b)).1.nodes.length ≤ big) :
    Calls Try.prog 106 #[ptr p, .int .i64 f, .int .i64 v, .bool b, .map (some bs)] w (MPost p L bs v b w (Mgr.build k M (resF M f v b)).1 (.int .i64 (Mgr.build k M (resF M f v b)).2)) := by
  have IH := Lib.hid ih
  clear ih
  have R := s0.rep
  have hF : M.Reads (M.n - k) (resF M f v b) := resF_reads R.wf hf df
  have THERE : Hid (∀ (w' : World) (r : Nat), Kp No w w' → M.stored r → (∀ a, M.sem r a = resF M f v b a) → MPost p L bs v b w (Mgr.build k M (resF M f v b)).1 (.int .i64 (Mgr.build k M (resF M f v b)).2) (.returned (.int .i64 r)) w') :=
    Lib.hid (fun w' r kp hr e => MPost.there (s0.no kp) hk hF hr e)
  have hm := maxLen_val
  obtain ⟨F, raw, _⟩ := R.raw
  have hvl : v < M.level.length := by rw [R.wf.len]; exact hv
  obtain ⟨bl, cl, hsl, hcl, hclm, hl⟩ := ownsRow_nats raw.level v hvl
  have c1 := raw.c1
  rw [hsl] at c1
  rw [show M.level.getD v 0 = M.lev v from rfl] at hl
  unfold natV at hl
  have hle1 : M.level.length ≤ 9223372036854775807 := by omega
  have b2 : (v : Int) < M.level.length := by omega
  have DC : Hid (∀ n, Calls Try.prog 122 #[ptr p, .int .i64 (f : Int)] (w.drewN n) fun e w' => e = .returned (.int .i64 (dI M f)) ∧ ∃ m, w' = (w.drewN n).drewN m) := Lib.hid (fun n => depth_I f (R.no (Kp.drewN n)) hf)
  by_cases hd : M.lev v < M.depth f
  · have RET := Lib.hid (fun n => THERE.out (w.drewN n) f (Kp.drewN n) hf (fun a => by unfold resF; rw [Mgr.sem_upd R.wf hf _ _ _ hd]))
    have t1 : decide ((M.lev v : Int) < dI M f) = true := by unfold dI; simp; omega
    have t2 : (M.lev v : Int) < dI M f := by unfold dI; omega
    clear s0 R raw hsl hcl hclm hF hm hd THERE
    generalize M.level.length = nl at *
    generalize dI M f = df' at *
    generalize (M.lev v : Int) = lv at *
    go_enter Try.func106, Try.ntmps106
    go_wp2
    go_quiet ((go_at_call 122; exact Calls.quiet_of (DC.out _)))
    go_wp2
    go_ret
    exact RET.out _
  · have h2 : 2 ≤ f := by
      rcases Nat.lt_or_ge f 2 with h | h
      · have := M.depth_const h; have := (R.wf.ol v hv).1; omega
      · exact h
    have t1 : decide ((M.lev v : Int) < dI M f) = false := by unfold dI; simp; omega
    have t2 : ¬ (M.lev v : Int) < dI M f := by unfold dI; omega
    have lt := M.stored_lt R.wf hf
    obtain ⟨v0, v1, sl, sh, _, dl, dh⟩ := Mgr.node_of R.wf hf h2
    have hdf : M.depth f = M.lev (M.nd f).1.toNat := by unfold Mgr.depth; rw [if_neg (by omega)]
    obtain ⟨x, hx⟩ := Int.eq_ofNat_of_zero_le v0
    have NC : Hid (∀ W, Kp No w W → ∃ bn cn, W.cell? ⟨p, 2, none⟩ = some (.slice (some ⟨bn, 0, none⟩) M.nodes.length cn) ∧ M.nodes.length ≤ 9223372036854775807 ∧ bn < W.heap.size ∧ p < W.heap.size ∧
        W.cell? ⟨bn, f * 3, none⟩ = some (.int .i64 (x : Int)) ∧ W.cell? ⟨bn, f * 3 + 1, none⟩ = some (.int .i64 ((M.nd f).2.1 : Int)) ∧ W.cell? ⟨bn, f * 3 + 2, none⟩ = some (.int .i64 ((M.nd f).2.2 : Int))) := Lib.hid (fun W kp => by
      have RW := R.no kp
      obtain ⟨F', raw', _⟩ := RW.raw
      obtain ⟨bn, cn, hsn, hcn, hcm, hnd⟩ := raw'.node_cells RW.wf
      obtain ⟨n0, n1, n2⟩ := hnd f lt
      have c2 := raw'.c2
      rw [hsn] at c2
      rw [hx] at n0
      exact ⟨bn, cn, c2, by omega, World.block_lt_of_cell? _ _ n0, RW.plt, n0, n1, n2⟩)
    have b1 : (f : Int) < M.nodes.length := by omega
    by_cases hxv : x = v
    · subst hxv
      have e1 : (M.nd f).1.toNat = x := by omega
      have RL := Lib.hid (fun w' kp => THERE.out w' _ kp sl)
      have RH := Lib.hid (fun w' kp => THERE.out w' _ kp sh)
      have HL : Hid (b = false → ∀ a, M.sem (M.nd f).2.1 a = resF M f x b a) := Lib.hid (fun e a => by unfold resF; rw [Mgr.sem_lo R.wf hf h2, e1, e])
      have HH : Hid (b = true → ∀ a, M.sem (M.nd f).2.2 a = resF M f x b a) := Lib.hid (fun e a => by unfold resF; rw [Mgr.sem_hi R.wf hf h2, e1, e])
      clear s0 R raw hsl hcl hclm hF hm hd THERE sl sh dl dh hdf e1 hx v0 v1 IH
      generalize M.level.length = nl at *
      generalize M.nodes.length = nn at *
      generalize dI M f = df' at *
      generalize (M.lev x : Int) = lv at *
      cases b with
      | false =>
        go_enter Try.func106, Try.ntmps106
        go_wp2
        go_quiet ((go_at_call 122; exact Calls.quiet_of (DC.out _)))
        have kW : Kp No w (w.drewN nq) := Kp.drewN nq
        clear c1 hl DC
        generalize w.drewN nq = W at *
        obtain ⟨bn, cn, c2, hle2, bnlt, plt, n0, n1, n2⟩ := NC.out W kW
        have KW := Lib.hid kW
        clear kW
        go_wp2
        go_ret
        exact RL.out _ (KW.out.trans_no (Kp.alloc _)) (HL.out (by first | rfl | trivial))
      | true =>
        go_enter Try.func106, Try.ntmps106
        go_wp2
        go_quiet ((go_at_call 122; exact Calls.quiet_of (DC.out _)))
        have kW : Kp No w (w.drewN nq) := Kp.drewN nq
        clear c1 hl DC
        generalize w.drewN nq = W at *
        obtain ⟨bn, cn, c2, hle2, bnlt, plt, n0, n1, n2⟩ := NC.out W kW
        have KW := Lib.hid kW
        clear kW
        go_wp2
        go_ret
        exact RH.out _ (KW.out.trans_no (Kp.alloc _)) (HH.out (by first | rfl | trivial))
    · have hxb : ((x : Int) == (v : Int)) = false := by simp; omega
      have hlt : M.depth f < M.lev v := by
        rcases Nat.lt_or_ge (M.depth f) (M.lev v) with h | h
        · exact h
        · exfalso; exact hxv (Mgr.lev_inj R.wf (by omega) hv (by rw [hdf] at hd h; rw [show (M.nd f).1.toNat = x by omega] at hd h; omega))
      obtain ⟨K, hmap, hsnd⟩ := s0.map
      have LK : Hid (∀ (W : World), Kp No w W → (Instr.lookup 101 (.map (some bs)) (.int .i64 f) true).run Try.prog W = .ok (.tuple #[(((K (f : Int)).map natV).getD (.int .i64 0)), .bool (K (f : Int)).isSome]) W) := Lib.hid (fun W kp =>
        (hmap.kp kp (fun x => x)).lookup keyRef Try.underlying101 zeroRef (f : Int) true)
      cases hKf : K (f : Int) with
      | some r =>
        obtain ⟨f', hf', _, sr, hsem⟩ := hsnd _ r hKf
        have : f' = f := by omega
        subst this
        have RET := Lib.hid (fun w' kp => THERE.out w' r kp sr hsem)
        rw [hKf] at LK
        simp only [Option.map_some, Option.getD_some, Option.isSome_some, natV] at LK
        clear s0 R raw hsl hcl hclm hF hm hd THERE sl sh dl dh hdf hx v0 v1 IH hmap hsnd hKf hsem hlt
        generalize M.level.length = nl at *
        generalize M.nodes.length = nn at *
        generalize dI M f' = df' at *
        generalize (M.lev v : Int) = lv at *
        go_enter Try.func106, Try.ntmps106
        go_wp2
        go_quiet ((go_at_call 122; exact Calls.quiet_of (DC.out _)))
        have kW : Kp No w (w.drewN nq) := Kp.drewN nq
        clear c1 hl DC
        generalize w.drewN nq = W at *
        obtain ⟨bn, cn, c2, hle2, bnlt, plt, n0, n1, n2⟩ := NC.out W kW
        have lk := LK.out (W.alloc (box3 x (M.nd f').2.1 (M.nd f').2.2)) (kW.trans_no (Kp.alloc _))
        have KW := Lib.hid kW
        clear kW
        go_wp2
        go_ret
        exact RET.out _ (KW.out.trans_no (Kp.alloc _))
      | none =>
        rw [hKf] at LK
        simp only [Option.map_none, Option.getD_none, Option.isSome_none] at LK
        obtain ⟨j, A, B, pl⟩ := rplan R.wf b hf h2 hk df hlt
        have hxt : (M.nd f).1.toNat = x := by omega
        have FIN : Hid (Mgr.build k M (resF M f v b) = B.1.put x A.2 B.2) := Lib.hid (by rw [pl.fin, hxt])
        have PL := Lib.hid pl
        have HXT := Lib.hid hxt
        have hb2 : (B.1.put x A.2 B.2).1.nodes.length ≤ big := by rw [← FIN.out]; exact hb
        have HB2 := Lib.hid hb2
        have WF := Lib.hid R.wf
        have HF' := Lib.hid hf
        have HV := Lib.hid hv
        have ST0 : Hid (∀ W, Kp No w W → Sb w p L bs v b W.heap.size (box3 x (M.nd f).2.1 (M.nd f).2.2) (W.alloc (box3 x (M.nd f).2.1 (M.nd f).2.2)) M L) := Lib.hid (fun W kp =>
          ⟨s0.no (kp.trans_no (Kp.alloc _)), heap_alloc_new _ _, fun h => by have := R.lt _ h; have := kp.size; omega, fun e => by have := hmap.lt; have := kp.size; omega⟩)
        clear s0 R raw hsl hcl hclm hF hm hd THERE sl sh dl dh hdf hx v0 v1 hmap hsnd hKf hlt pl hb hb2 df hxt
        generalize M.level.length = nl at *
        generalize M.nodes.length = nn at *
        generalize dI M f = df' at *
        generalize (M.lev v : Int) = lv at *
        go_enter Try.func106, Try.ntmps106
        go_wp2
        go_quiet ((go_at_call 122; exact Calls.quiet_of (DC.out _)))
        have kW : Kp No w (w.drewN nq) := Kp.drewN nq
        clear c1 hl DC
        generalize w.drewN nq = W at *
        obtain ⟨bn, cn, c2, hle2, bnlt, plt, n0, n1, n2⟩ := NC.out W kW
        have lk := LK.out (W.alloc (box3 x (M.nd f).2.1 (M.nd f).2.2)) (kW.trans_no (Kp.alloc _))
        have s1 := Lib.hid (ST0.out W kW)
        have KW := Lib.hid kW
        clear kW ST0
        have bA : A.1.nodes.length ≤ big := by have := PL.out.lA; rw [HXT.out] at this; exact Nat.le_trans this HB2.out
        have bB : B.1.nodes.length ≤ big := by have := PL.out.lB; rw [HXT.out] at this; exact Nat.le_trans this HB2.out
        have BA := Lib.hid bA
        have BB := Lib.hid bB
        clear bA bB
        go_wp2_with fail
        have CA := Lib.hid (IH.out p M L (M.nd f).2.1 v b bs (W.alloc (box3 x (M.nd f).2.1 (M.nd f).2.2)) j PL.out.hj (Sm.start s1.out.sm.rep s1.out.sm.map.choose_spec.1 s1.out.sm.map.choose_spec.2 s1.out.sm.nb) PL.out.sl HV.out PL.out.jn PL.out.dl (by rw [← PL.out.eA]; exact BA.out))
        rw [← PL.out.eA] at CA
        refine CA.out.mono ?_
        intro e w2 h2'
        obtain ⟨rfl, L2, s2⟩ := s1.out.trans h2'
        clear h2' s1 CA lk c2 n0 n1 n2
        have e0 : w2.cell? ⟨W.heap.size, 0, none⟩ = some (.int .i64 x) := by simp [World.cell?, s2.box]
        have e1 : w2.cell? ⟨W.heap.size, 1, none⟩ = some (.int .i64 ((M.nd f).2.1 : Int)) := by simp [World.cell?, s2.box]
        have e2 : w2.cell? ⟨W.heap.size, 2, none⟩ = some (.int .i64 ((M.nd f).2.2 : Int)) := by simp [World.cell?, s2.box]
        have S2 := Lib.hid s2
        clear s2
        go_wp2_with fail
        have CB := Lib.hid (IH.out p A.1 L2 (M.nd f).2.2 v b bs w2 j PL.out.hj (Sm.start S2.out.sm.rep S2.out.sm.map.choose_spec.1 S2.out.sm.map.choose_spec.2 S2.out.sm.nb) (PL.out.sA.ext.stored PL.out.sh) (by rw [PL.out.sA.ext.n]; exact HV.out) (by rw [PL.out.sA.ext.n]; exact PL.out.jn)
          (by rw [PL.out.sA.ext.n, PL.out.sA.ext.depth PL.out.sh]; exact PL.out.dh) (by rw [← PL.out.eB]; exact BB.out))
        rw [← PL.out.eB] at CB
        refine CB.out.mono ?_
        intro e w3 h3'
        obtain ⟨rfl, L3, s3⟩ := S2.out.trans h3'
        clear h3' S2 CB e0 e1 e2
        have e0 : w3.cell? ⟨W.heap.size, 0, none⟩ = some (.int .i64 x) := by simp [World.cell?, s3.box]
        have S3 := Lib.hid s3
        clear s3
        go_wp2_with fail
        refine (node_ok x A.2 B.2 S3.out.sm.rep (by rw [← HXT.out]; exact PL.out.vn) (PL.out.sB.ext.stored PL.out.sA.st) PL.out.sB.st (by rw [← HXT.out]; exact PL.out.dA) (by rw [← HXT.out]; exact PL.out.dB) HB2.out).mono ?_
        intro e w4 h4'
        obtain ⟨rfl, L4, s4⟩ := S3.out.step (by rw [← HXT.out]; exact PL.out.ext2) h4'
        clear h4' S3 e0
        have sr3 : (B.1.put x A.2 B.2).1.stored (B.1.put x A.2 B.2).2 := by rw [← HXT.out]; exact PL.out.st
        have sf3 : (B.1.put x A.2 B.2).1.stored f := by rw [← HXT.out]; exact PL.out.ext.stored HF'.out
        have se3 : ∀ a, (B.1.put x A.2 B.2).1.sem (B.1.put x A.2 B.2).2 a = resF (B.1.put x A.2 B.2).1 f v b a := fun a => by
          unfold resF
          rw [← HXT.out, PL.out.ext.sem WF.out HF'.out, PL.out.sem]; rfl
        have SE3 := Lib.hid se3
        clear se3 PL HB2 BA BB IH WF HXT
        generalize B.1.put x A.2 B.2 = Pt at *
        obtain ⟨K4, m4, sn4⟩ := s4.sm.map
        obtain ⟨w5, hup, hm5, hk5, _⟩ := m4.update keyRef Try.underlying101 (f : Int) Pt.2
        have up : (Instr.mapUpdate 101 (.map (some bs)) (.int .i64 f) (.int .i64 Pt.2)).run Try.prog w4 = .ok () w5 := hup 0
        have RET : Hid (MPost p L bs v b w Pt.1 (.int .i64 Pt.2) (.returned (.int .i64 Pt.2)) w5) := Lib.hid (by
          refine ⟨L4, rfl, s4.sm.rep.kp hk5 (fun y e => by rw [e]; exact s4.sm.nb), s4.sm.kp.trans (A' := fun y => y = bs) (fun y e => .inl (.inr e)) (hk5.mono (fun _ _ e => e)), s4.sm.fr, ⟨_, hm5, fun y r hr => ?_⟩, s4.sm.nb⟩
          split at hr
          · rename_i hy
            cases hr
            exact ⟨f, hy, sf3, sr3, SE3.out⟩
          · exact sn4 y r hr)
        clear hup hm5 hk5 m4 sn4 s4 SE3 sf3 sr3
        go_wp2
        go_ret
        rw [FIN.out]
        exact RET.out

theorem restrict_at (k : Nat) : ∀ (p : Nat) (M : Mgr) (L : Lay) (f v : Nat) (b : Bool) (bs : Nat) (w : World), Sm w p L bs v b w M L → M.stored f → v < M.n → k ≤ M.n → M.n - k ≤ M.depth f → (Mgr.build k M (resF M f v b)).1.nodes.length ≤ big →
      Calls Try.prog 106 #[ptr p, .int .i64 f, .int .i64 v, .bool b, .map (some bs)] w (MPost p L bs v b w (Mgr.build k M (resF M f v b)).1 (.int .i64 (Mgr.build k M (resF M f v b)).2)) := by
  induction k using Nat.strongRecOn with
  | _ k ih =>
    intro p M L f v b bs w s hf hv hk df hb
    exact restrict_step (fun p M L f v b bs w j hj s hf hv hk df hb => ih j hj p M L f v b bs w s hf hv hk df hb) f v b s hf hv hk df hb

namespace Mgr
def restrictM (M : Mgr) (f v : Int) (b : Bool) : Mgr × Int :=
  if M.valid f = true ∧ (0 ≤ v ∧ v < M.n) then
    let B := build M.n M (resF M f.toNat v.toNat b)
    (B.1.show B.2, (B.2 : Int))
  else (M, -1)
theorem restrictM_ops {M : Mgr} (h : M.WF) {f : Int} (hf : M.valid f = true) {v : Nat} (hv : v < M.n) (b : Bool) {F : (Nat → Bool) → Bool} (hF : ∀ a, F a = M.sem f.toNat (upd a v b)) {s : Nat} (hs : M.States F s) :
    OpS M F (M.n * s) (M.restrictM f v b).1 (M.restrictM f v b).2 := by
  have e : M.restrictM f v b = _ := if_pos ⟨hf, by omega, by omega⟩
  obtain ⟨f, rfl, sf, _⟩ := valid_nat h hf
  rw [e]
  simp only [Int.toNat_natCast] at hF ⊢
  have eF : F = resF M f v b := funext hF
  have hr : M.Reads (M.n - M.n) (resF M f v b) := resF_reads h sf (by omega)
  have sp := build_spec M.n M h (Nat.le_refl _) _ hr
  rw [eF] at hs ⊢
  exact show_ops h sp.wf sp.ext sp.st sp.sem (build_cost h (by rw [Nat.sub_self] at hr; exact hr) hs)
end Mgr

set_option maxRecDepth 100000 in
set_option maxHeartbeats 400000 in
theorem Restrict_ok {p : Nat} {M : Mgr} {L : Lay} (f v : Int) (b : Bool) {w : World} (R : Rep w p M L) (hb : (M.restrictM f v b).1.nodes.length ≤ big) :
    Calls Try.prog 67 #[ptr p, .int .i64 f, .int .i64 v, .bool b] w (Ret p L w (M.restrictM f v b).1 (.int .i64 (M.restrictM f v b).2)) := by
  by_cases hf : M.valid f = true
  · by_cases hv : 0 ≤ v ∧ v < M.n
    · have e : M.restrictM f v b = _ := if_pos ⟨hf, hv⟩
      obtain ⟨f, rfl, sf, _⟩ := Mgr.valid_nat R.wf hf
      obtain ⟨v, rfl⟩ := Int.eq_ofNat_of_zero_le hv.1
      rw [e] at hb ⊢
      simp only [Int.toNat_natCast] at hb ⊢
      have hvn : v < M.n := by omega
      have hmm := @run_makeMap Try.prog
      have nb : ¬ L.at p w.heap.size := fun h => by have := R.lt _ h; omega
      have hm0 : MapAs (w.alloc (.map #[] 0)) w.heap.size intV natV (fun _ => none) := MapAs.empty w intV natV
      have sp := Mgr.build_spec M.n M R.wf (Nat.le_refl _) _ (resF_reads (v := v) (b := b) R.wf sf (by omega))
      have hc := restrict_at M.n p M L f v b w.heap.size (w.alloc (.map #[] 0)) (Sm.start (R.no (Kp.alloc _)) hm0 (fun x r h => by cases h) nb) sf hvn (Nat.le_refl _) (by omega) hb
      generalize Mgr.build M.n M (resF M f v b) = B at *
      have HC := Lib.hid hc
      have HS := Lib.hid sp.st
      have SF := Lib.hid hf
      have SV : Hid (decide (0 ≤ (v : Int) ∧ (v : Int) < (M.n : Int)) = true) := Lib.hid (by simp; omega)
      clear hc hb e sp hf hv hvn nb hm0
      go_enter Try.func67, Try.ntmps67
      go_wp2_with fail
      refine (valid_as _ true R SF.out).mono ?_
      rintro e w' ⟨rfl, rfl⟩
      go_wp2_with fail
      refine (variable_as _ true R SV.out).mono ?_
      rintro e w' ⟨rfl, rfl⟩
      go_wp2_with fail
      refine HC.out.mono ?_
      rintro e w1 ⟨L1, rfl, s1⟩
      have d1 : Sd w p L w1 B.1 L1 := ⟨s1.rep, (Kp.alloc (.map #[] 0)).no_trans_or s1.kp, fun x hx => by
        rcases s1.fr x hx with h | h
        · exact .inl h
        · right; simp at h; omega⟩
      clear s1
      go_wp2_with fail
      refine (show_ok B.2 d1.rep HS.out).mono ?_
      intro e w2 h2
      obtain ⟨rfl, L2, d2⟩ := d1.step h2
      clear h2 d1
      go_wp2_with fail
      go_ret
      exact d2.ret _
    · have e : M.restrictM f v b = (M, -1) := if_neg (fun x => hv x.2)
      rw [e]
      have SF := Lib.hid hf
      have SV : Hid (decide (0 ≤ v ∧ v < (M.n : Int)) = false) := Lib.hid (by simpa using hv)
      clear hf hv e hb
      go_enter Try.func67, Try.ntmps67
      go_wp2_with fail
      refine (valid_as _ true R SF.out).mono ?_
      rintro e w' ⟨rfl, rfl⟩
      go_wp2_with fail
      refine (variable_as _ false R SV.out).mono ?_
      rintro e w' ⟨rfl, rfl⟩
      go_wp2_with fail
      go_ret
      exact Ret.same R
  · have e : M.restrictM f v b = (M, -1) := if_neg (fun x => hf x.1)
    rw [e]
    have SF : Hid (M.valid f = false) := Lib.hid (by simpa using hf)
    clear hf e hb
    go_enter Try.func67, Try.ntmps67
    go_wp2_with fail
    refine (valid_as _ false R SF.out).mono ?_
    rintro e w' ⟨rfl, rfl⟩
    go_wp2_with fail
    go_ret
    exact Ret.same R

end Go.Proofs.Ytngbodmooddjbaa

namespace Go.Proofs.Ytngbodmooddjbaa
open Go.RowKit

/-- A manager of the call's own. -/
structure Own (w0 : World) (p : Nat) (w : World) (M : Mgr) (L : Lay) : Prop where
  rep : Rep w p M L
  kp : Kp No w0 w
  own : ∀ x, L.at p x → w0.heap.size ≤ x
theorem Own.no {w0 w w' : World} {p : Nat} {M : Mgr} {L : Lay} (s : Own w0 p w M L) (h : Kp No w w') : Own w0 p w' M L := ⟨s.rep.no h, s.kp.trans_no h, s.own⟩
theorem Own.step {w0 w w' : World} {p : Nat} {M M' : Mgr} {L : Lay} {v : Value} {e : Ending} (s : Own w0 p w M L) (h : Ret p L w M' v e w') : e = .returned v ∧ ∃ L', Own w0 p w' M' L' := by
  obtain ⟨L', he, r, k, f⟩ := h
  refine ⟨he, L', r, s.kp.trans (A' := L.at p) (fun x hx => .inr (s.own x hx)) k, fun x hx => ?_⟩
  rcases f x hx with h1 | h1
  · exact s.own x h1
  · have := s.kp.size; omega
theorem Own.start {w w' : World} {p n : Nat} {L : Lay} (R : Rep w' p (Mgr.new n) L) (k : Kp No w w') (o : ∀ x, L.at p x → w.heap.size ≤ x) : Own w p w' (Mgr.new n) L := ⟨R, k, o⟩

structure Awk (a1 a2 a3 a4 a5 a6 : Mgr × Int) : Prop where
  e1 : a1 = (Mgr.new 3).varM 0
  e2 : a2 = a1.1.varM 2
  e3 : a3 = a2.1.andM a1.2 a2.2
  e4 : a4 = a3.1.notM a3.2
  e5 : a5 = a4.1.notM a4.2
  e6 : a6 = a5.1.varM 3
  b1 : a1.1.nodes.length ≤ big
  b2 : a2.1.nodes.length ≤ big
  b3 : a3.1.nodes.length ≤ big
  b4 : a4.1.nodes.length ≤ big
  b5 : a5.1.nodes.length ≤ big
  b6 : a6.1.nodes.length ≤ big
  f1 : a3.1.evalM a3.2 [true, false, true] = true
  f2 : a3.1.evalM a3.2 [true, true] = false
  f3 : a3.1.sizeM a3.2 = 2
  f4 : a5.2 = a3.2
  f5 : a6.2 = -1
  f6 : a6.1.valid a3.2 = true

theorem awk : ∃ a1 a2 a3 a4 a5 a6, Awk a1 a2 a3 a4 a5 a6 :=
  ⟨_, _, _, _, _, _, ⟨rfl, rfl, rfl, rfl, rfl, rfl, by decide +kernel, by decide +kernel, by decide +kernel, by decide +kernel, by decide +kernel, by decide +kernel,
    by decide +kernel, by decide +kernel, by decide +kernel, by decide +kernel, by decide +kernel, by decide +kernel⟩⟩

theorem bools_new (w : World) (l : List Bool) (hl : l.length ≤ maxLen) : Bools (w.alloc (.cells (l.map Value.bool).toArray 4)) (.slice (some ⟨w.heap.size, 0, none⟩) l.length l.length) l :=
  ⟨_, _, rfl, hl, .inr ⟨w.heap.size, 0, rfl, fun i b hi => by
    have h := heap_alloc_new w (.cells (l.map Value.bool).toArray 4)
    rw [Nat.zero_add, cell_of_row _ _ _ _ _ _ h]
    simp [hi]⟩⟩

/-- 'Pick'. -/
def pick (x : Int) (n : Nat) : Nat := (x % 18446744073709551616).toNat % n

theorem pick_lt (x : Int) {n : Nat} (h : 0 < n) : pick x n < n := Nat.mod_lt _ h

set_option maxRecDepth 100000 in
set_option maxHeartbeats 400000 in
theorem Pick_ok (x : Int) (n : Nat) (w : World) (h0 : 0 < n) (h1 : n ≤ 9223372036854775807) :
    Calls Try.prog 20 #[.int .i64 x, .int .i64 (n : Int)] w fun e w' => e = .returned (.int .i64 (pick x n : Int)) ∧ w = w' := by
  go_enter Try.func20, Try.ntmps20
  go_wp2
  go_ret
  have hu : IntKind.u64.wrap x = x % 18446744073709551616 := by simp [IntKind.wrap, IntKind.bits, IntKind.signed]
  have h2 : (0 : Int) ≤ x % 18446744073709551616 := Int.emod_nonneg _ (by omega)
  have h3 : (IntKind.u64.wrap x).tmod (n : Int) = (pick x n : Int) := by
    rw [hu, Int.tmod_eq_emod_of_nonneg h2]
    unfold pick
    rw [Int.natCast_emod, Int.toNat_of_nonneg h2]
  have h4 := pick_lt x h0
  refine ⟨?_, rfl⟩
  show Ending.returned (.int .i64 (wrap64 ((IntKind.u64.wrap x).tmod (n : Int)))) = _
  rw [h3, IntWalk.wrap64_in _ ⟨by omega, by omega⟩]

end Go.Proofs.Ytngbodmooddjbaa

namespace Go.Proofs.Ytngbodmooddjbaa
open Go.RowKit

abbrev Bfn := (Nat → Bool) → Bool

/-- What is known of the Refs of a manager: pairs of a Ref and its function; a bound on the nodes. -/
structure Qk (n c : Nat) (M : Mgr) (B : List (Int × Bfn)) : Prop where
  wf : M.WF
  nn : M.n = n
  pl : M.Plain
  cost : M.nodes.length ≤ c
  sem : ∀ x, x ∈ B → M.valid x.1 = true ∧ ∀ a, M.sem x.1.toNat a = x.2 a

theorem Qk.at {n c : Nat} {M : Mgr} {B : List (Int × Bfn)} (b : Qk n c M B) {f : Int} {F : Bfn} (h : (f, F) ∈ B) : M.valid f = true ∧ ∀ a, M.sem f.toNat a = F a := b.sem _ h
theorem Qk.rd {n c : Nat} {M : Mgr} {B : List (Int × Bfn)} (b : Qk n c M B) {f : Int} {F : Bfn} (h : (f, F) ∈ B) : Rd 0 n F := fun x y hxy => by
  obtain ⟨v, s⟩ := b.at h
  obtain ⟨k, rfl, sk, _⟩ := Mgr.valid_nat b.wf v
  rw [← s, ← s]
  exact Mgr.sem_reads b.wf sk x y (fun v hv _ => hxy v (by omega) (by rw [← b.nn]; exact hv))
theorem Qk.push {n c k : Nat} {M M' : Mgr} {B : List (Int × Bfn)} {F : Bfn} {r : Int} (b : Qk n c M B) (o : Mgr.OpS M F k M' r) {c' : Nat} (hc : c + k ≤ c') : Qk n c' M' ((r, F) :: B) := by
  refine ⟨o.wf, by rw [o.n, b.nn], o.plain b.pl, by have := o.len; have := b.cost; omega, fun x hx => ?_⟩
  rcases List.mem_cons.1 hx with rfl | hx
  · exact ⟨o.ok, o.sem⟩
  · obtain ⟨a1, a2⟩ := b.sem x hx
    obtain ⟨b1, b2⟩ := o.old x.1 a1
    exact ⟨b1, fun a => by rw [b2, a2]⟩
theorem Qk.sub {n c : Nat} {M : Mgr} {B B' : List (Int × Bfn)} (b : Qk n c M B) (h : ∀ x, x ∈ B' → x ∈ B) : Qk n c M B' := ⟨b.wf, b.nn, b.pl, b.cost, fun x hx => b.sem x (h x hx)⟩
theorem Qk.mono {n c c' : Nat} {M : Mgr} {B : List (Int × Bfn)} (b : Qk n c M B) (h : c ≤ c') : Qk n c' M B := ⟨b.wf, b.nn, b.pl, Nat.le_trans b.cost h, b.sem⟩
theorem Qk.tail {n c : Nat} {M : Mgr} {B : List (Int × Bfn)} {x : Int × Bfn} (b : Qk n c M (x :: B)) : Qk n c M B := b.sub (fun _ h => List.mem_cons_of_mem _ h)
theorem Qk.cong {n c : Nat} {M : Mgr} {B : List (Int × Bfn)} {r : Int} {F G : Bfn} (b : Qk n c M ((r, F) :: B)) (e : ∀ a, F a = G a) : Qk n c M ((r, G) :: B) := by
  have : F = G := funext e
  rw [← this]; exact b

/-- Equal functions, equal Refs. -/
theorem Qk.eq {n c : Nat} {M : Mgr} {B : List (Int × Bfn)} (b : Qk n c M B) {f g : Int} {F G : Bfn} (hf : (f, F) ∈ B) (hg : (g, G) ∈ B) (e : ∀ a, F a = G a) : f = g := by
  obtain ⟨v1, s1⟩ := b.at hf
  obtain ⟨v2, s2⟩ := b.at hg
  exact Mgr.valid_canon b.wf v1 v2 (fun a => by rw [s1, s2]; exact e a)
theorem Qk.eq_conv {n c : Nat} {M : Mgr} {B : List (Int × Bfn)} (b : Qk n c M B) {f : Int} {F G : Bfn} (hf : (f, F) ∈ B) (hg : (f, G) ∈ B) : ∀ a, F a = G a := by
  obtain ⟨v1, s1⟩ := b.at hf
  obtain ⟨v2, s2⟩ := b.at hg
  exact fun a => by rw [← s1, ← s2]
theorem Qk.consts {n c : Nat} {M : Mgr} {B : List (Int × Bfn)} (b : Qk n c M B) : Qk n c M ((0, fun _ => false) :: (1, fun _ => true) :: B) := by
  refine ⟨b.wf, b.nn, b.pl, b.cost, fun x hx => ?_⟩
  rcases List.mem_cons.1 hx with rfl | hx
  · exact ⟨Mgr.valid_zero b.wf, fun a => Mgr.sem_zero M a⟩
  · rcases List.mem_cons.1 hx with rfl | hx
    · exact ⟨Mgr.valid_one b.wf, fun a => Mgr.sem_one M a⟩
    · exact b.sem x hx
theorem Qk.nonneg {n c : Nat} {M : Mgr} {B : List (Int × Bfn)} (b : Qk n c M B) {r : Int} {F : Bfn} (h : (r, F) ∈ B) : 0 ≤ r := by
  obtain ⟨v, _⟩ := b.at h
  obtain ⟨k, hk, _⟩ := Mgr.valid_nat b.wf v
  omega

theorem Mgr.new_n' (n : Nat) : (Mgr.new n).n = n := by simp [Mgr.n, Mgr.new]
theorem Qk.new (n : Nat) : Qk n 2 (Mgr.new n) [] := by
  refine ⟨Mgr.new_wf n, Mgr.new_n' n, fun v hv => ?_, by simp [Mgr.new], fun x hx => by simp at hx⟩
  rw [Mgr.new_n'] at hv
  simp [Mgr.lev, Mgr.new, hv]

/-- What an operation leaves. -/
def OpQ (p n c : Nat) (L : Lay) (w : World) (F : Bfn) (B : List (Int × Bfn)) (e : Ending) (w' : World) : Prop := ∃ r M', Ret p L w M' (.int .i64 r) e w' ∧ Qk n c M' ((r, F) :: B) ∧ 0 ≤ r

section
variable {p n c : Nat} {M : Mgr} {L : Lay} {wr : World} {B : List (Int × Bfn)} {f g h : Int} {F G H : Bfn}

theorem OpQ.of {k : Nat} {M' : Mgr} {r : Int} {e : Ending} {w' : World} (b : Qk n c M B) (o : Mgr.OpS M F k M' r) {c' : Nat} (hc : c + k ≤ c') (h : Ret p L wr M' (.int .i64 r) e w') : OpQ p n c' L wr F B e w' :=
  have b' := b.push o hc
  ⟨r, M', h, b', b'.nonneg (.head _)⟩

theorem NotQ (R : Rep wr p M L) (b : Qk n c M B) (hf : (f, F) ∈ B) {s : Nat} (hs : PSt n F s) (hc : c + n * s ≤ 1000000000000) : Calls Try.prog 27 #[ptr p, .int .i64 f] wr (OpQ p n (c + n * s) L wr (fun a => !F a) B) := by
  obtain ⟨v1, s1⟩ := b.at hf
  have o := Mgr.notM_ops b.wf v1 (F := fun a => !F a) (fun a => by rw [s1]) (hs.not M b.nn b.pl)
  rw [b.nn] at o
  have := o.len
  have := b.cost
  exact (Not_ok f R (by unfold big; omega)).mono (fun e w' h => OpQ.of b o (Nat.le_refl _) h)
theorem AndQ (R : Rep wr p M L) (b : Qk n c M B) (hf : (f, F) ∈ B) (hg : (g, G) ∈ B) {s : Nat} (hs : PSt n (fun a => F a && G a) s) (hc : c + n * s ≤ 1000000000000) : Calls Try.prog 15 #[ptr p, .int .i64 f, .int .i64 g] wr (OpQ p n (c + n * s) L wr (fun a => F a && G a) B) := by
  obtain ⟨v1, s1⟩ := b.at hf
  obtain ⟨v2, s2⟩ := b.at hg
  have o := Mgr.andM_ops b.wf v1 v2 (F := fun a => F a && G a) (fun a => by rw [s1, s2]) (hs M b.nn b.pl)
  rw [b.nn] at o
  have := o.len
  have := b.cost
  exact (And_ok f g R (by unfold big; omega)).mono (fun e w' h => OpQ.of b o (Nat.le_refl _) h)
theorem OrQ (R : Rep wr p M L) (b : Qk n c M B) (hf : (f, F) ∈ B) (hg : (g, G) ∈ B) {s : Nat} (hs : PSt n (fun a => F a || G a) s) (hc : c + n * s ≤ 1000000000000) : Calls Try.prog 13 #[ptr p, .int .i64 f, .int .i64 g] wr (OpQ p n (c + n * s) L wr (fun a => F a || G a) B) := by
  obtain ⟨v1, s1⟩ := b.at hf
  obtain ⟨v2, s2⟩ := b.at hg
  have o := Mgr.orM_ops b.wf v1 v2 (F := fun a => F a || G a) (fun a => by rw [s1, s2]) (hs M b.nn b.pl)
  rw [b.nn] at o
  have := o.len
  have := b.cost
  exact (Or_ok f g R (by unfold big; omega)).mono (fun e w' h => OpQ.of b o (Nat.le_refl _) h)
theorem XorQ (R : Rep wr p M L) (b : Qk n c M B) (hf : (f, F) ∈ B) (hg : (g, G) ∈ B) {s t : Nat} (hs : PSt n (fun a => F a ^^ G a) s) (ht : PSt n G t) (hc : c + n * t + n * s ≤ 1000000000000) : Calls Try.prog 64 #[ptr p, .int .i64 f, .int .i64 g] wr (OpQ p n (c + n * t + n * s) L wr (fun a => F a ^^ G a) B) := by
  obtain ⟨v1, s1⟩ := b.at hf
  obtain ⟨v2, s2⟩ := b.at hg
  have o := Mgr.xorM_ops b.wf v1 v2 (F := fun a => F a ^^ G a) (fun a => by rw [s1, s2]) (hs M b.nn b.pl) (ht.not.congr (fun a => by rw [s2]) M b.nn b.pl)
  rw [b.nn] at o
  have := o.len
  have := b.cost
  exact (Xor_ok f g R (by unfold big; omega)).mono (fun e w' h => OpQ.of b o (by omega) h)
theorem IteQ (R : Rep wr p M L) (b : Qk n c M B) (hf : (f, F) ∈ B) (hg : (g, G) ∈ B) (hh : (h, H) ∈ B) {s : Nat} (hs : PSt n (fun a => if F a then G a else H a) s) (hc : c + n * s ≤ 1000000000000) :
    Calls Try.prog 50 #[ptr p, .int .i64 f, .int .i64 g, .int .i64 h] wr (OpQ p n (c + n * s) L wr (fun a => if F a then G a else H a) B) := by
  obtain ⟨v1, s1⟩ := b.at hf
  obtain ⟨v2, s2⟩ := b.at hg
  obtain ⟨v3, s3⟩ := b.at hh
  have o := Mgr.iteM_ops b.wf v1 v2 v3 (F := fun a => if F a then G a else H a) (fun a => by rw [s1, s2, s3]) (hs M b.nn b.pl)
  rw [b.nn] at o
  have := o.len
  have := b.cost
  exact (Ite_ok f g h R (by unfold big; omega)).mono (fun e w' h => OpQ.of b o (Nat.le_refl _) h)
theorem RestrictQ (R : Rep wr p M L) (b : Qk n c M B) (hf : (f, F) ∈ B) {v : Nat} (hv : v < n) (x : Bool) {s : Nat} (hs : PSt n (fun a => F (Mgr.upd a v x)) s) (hc : c + n * s ≤ 1000000000000) :
    Calls Try.prog 67 #[ptr p, .int .i64 f, .int .i64 (v : Int), .bool x] wr (OpQ p n (c + n * s) L wr (fun a => F (Mgr.upd a v x)) B) := by
  obtain ⟨v1, s1⟩ := b.at hf
  have o := Mgr.restrictM_ops b.wf v1 (v := v) (by rw [b.nn]; exact hv) x (F := fun a => F (Mgr.upd a v x)) (fun a => by rw [s1]) (hs M b.nn b.pl)
  rw [b.nn] at o
  have := o.len
  have := b.cost
  exact (Restrict_ok f (v : Int) x R (by unfold big; omega)).mono (fun e w' h => OpQ.of b o (Nat.le_refl _) h)
theorem VarQ (R : Rep wr p M L) (b : Qk n c M B) {v : Nat} (hv : v < n) (hc : c + 1 ≤ 1000000000000) :
    Calls Try.prog 47 #[ptr p, .int .i64 (v : Int)] wr (OpQ p n (c + 1) L wr (fun a => a v) B) := by
  have o := Mgr.varM_ops b.wf (v := v) (by rw [b.nn]; exact hv)
  have := o.len
  have := b.cost
  exact (Var_ok (v : Int) R (by unfold big; omega)).mono (fun e w' h => OpQ.of b o (by omega) h)
theorem EvalQ (R : Rep wr p M L) (b : Qk n c M B) (hf : (f, F) ∈ B) {v : Value} {l : List Bool} (hl : Bools wr v l) :
    Calls Try.prog 76 #[ptr p, .int .i64 f, v] wr fun e w' => e = .returned (.bool (F (asg l))) ∧ Kp No wr w' := by
  obtain ⟨v1, s1⟩ := b.at hf
  have := Eval_ok f R hl
  have e : M.evalM f l = F (asg l) := by unfold Mgr.evalM; rw [if_pos v1, s1]
  rw [e] at this
  exact this
theorem ValidQ (R : Rep wr p M L) (b : Qk n c M B) (hf : (f, F) ∈ B) : Calls Try.prog 51 #[ptr p, .int .i64 f] wr fun e w' => e = .returned (.bool true) ∧ wr = w' :=
  valid_as f true R (b.at hf).1
end

end Go.Proofs.Ytngbodmooddjbaa
