/-
  Walks: 'Ite', 'Not', 'And', 'Or', 'Xor', 'Var' of the package bdd.
-/
import Derived.Test.YtngbodmooddjbaaW4
import Derived.Deep.CutBlock
namespace Go.Proofs.Ytngbodmooddjbaa
open Go.RowKit

theorem Rep.no {w w' : World} {p : Nat} {M : Mgr} {L : Lay} (R : Rep w p M L) (h : Kp No w w') : Rep w' p M L := by
  obtain ⟨F, raw, s⟩ := R.raw
  exact ⟨⟨F, raw.no h, s⟩, R.wf⟩
theorem Rep.kp {A : Nat → Prop} {w w' : World} {p : Nat} {M : Mgr} {L : Lay} (R : Rep w p M L) (h : Kp A w w') (hA : ∀ k, A k → ¬ L.at p k) : Rep w' p M L := by
  obtain ⟨F, raw, s⟩ := R.raw
  exact ⟨⟨F, raw.kp h hA, s⟩, R.wf⟩
theorem Rep.lt {w : World} {p : Nat} {M : Mgr} {L : Lay} (R : Rep w p M L) : ∀ k, L.at p k → k < w.heap.size := by
  obtain ⟨F, raw, s⟩ := R.raw
  exact raw.lt
theorem Rep.plt {w : World} {p : Nat} {M : Mgr} {L : Lay} (R : Rep w p M L) : p < w.heap.size := R.lt p (.inl rfl)

/-- A state on the way: what was known at w0, a block B of the call's own. -/
structure St (w0 : World) (p : Nat) (L0 : Lay) (B : Nat) (bx : Obj) (w : World) (M : Mgr) (L : Lay) : Prop where
  rep : Rep w p M L
  kp : Kp (L0.at p) w0 w
  fr : Fresh (L0.at p) (L.at p) w0
  box : w.heap[B]? = some bx
  bh : w0.heap.size ≤ B
  bn : ¬ L.at p B

theorem St.no {w0 : World} {p : Nat} {L0 : Lay} {B : Nat} {bx : Obj} {w w' : World} {M : Mgr} {L : Lay} (s : St w0 p L0 B bx w M L) (h : Kp No w w') : St w0 p L0 B bx w' M L :=
  ⟨s.rep.no h, s.kp.trans_no h, s.fr, by rw [h.block B (heap_lt s.box) (fun x => x)]; exact s.box, s.bh, s.bn⟩

theorem St.step {w0 : World} {p : Nat} {L0 : Lay} {B : Nat} {bx : Obj} {w w' : World} {M M' : Mgr} {L : Lay} {v : Value} {e : Ending} (s : St w0 p L0 B bx w M L) (h : Ret p L w M' v e w') :
    e = .returned v ∧ ∃ L', St w0 p L0 B bx w' M' L' := by
  obtain ⟨L', he, r, k, f⟩ := h
  refine ⟨he, L', r, s.kp.trans s.fr k, fun x hx => ?_, ?_, s.bh, fun hx => ?_⟩
  · rcases f x hx with h1 | h1
    · exact s.fr x h1
    · right; have := s.kp.size; omega
  · rw [k.block B (heap_lt s.box) s.bn]; exact s.box
  · rcases f B hx with h1 | h1
    · exact s.bn h1
    · have := heap_lt s.box; omega

theorem St.start {w : World} {p : Nat} {M : Mgr} {L : Lay} (R : Rep w p M L) (o : Obj) : St w p L w.heap.size o (w.alloc o) M L :=
  ⟨R.no (Kp.alloc o), (Kp.alloc o).of_no, fun _ h => .inl h, heap_alloc_new w o, Nat.le_refl _, fun h => by have := R.lt _ h; omega⟩

def iteF (M : Mgr) (f g h : Nat) : (Nat → Bool) → Bool := fun a => if M.sem f a then M.sem g a else M.sem h a

theorem iteF_reads {M : Mgr} (wf : M.WF) {f g h d : Nat} (hf : M.stored f) (hg : M.stored g) (hh : M.stored h) (df : d ≤ M.depth f) (dg : d ≤ M.depth g) (dh : d ≤ M.depth h) : M.Reads d (iteF M f g h) := by
  intro a b hab
  unfold iteF
  rw [Mgr.sem_agree wf _ f hf (Nat.le_refl _) a b (fun v hv h => hab v hv (by omega)), Mgr.sem_agree wf _ g hg (Nat.le_refl _) a b (fun v hv h => hab v hv (by omega)),
    Mgr.sem_agree wf _ h hh (Nat.le_refl _) a b (fun v hv h => hab v hv (by omega))]

/-- The depth of f as an integer: closed to the walk. -/
def dI (M : Mgr) (f : Nat) : Int := (M.depth f : Int)
theorem depth_I {p : Nat} {M : Mgr} {L : Lay} (f : Nat) {w : World} (R : Rep w p M L) (hf : M.stored f) :
    Calls Try.prog 122 #[ptr p, .int .i64 f] w fun e w' => e = .returned (.int .i64 (dI M f)) ∧ ∃ k, w' = w.drewN k := depth_ok f R hf

/-- The cofactors of a stored function at a level above or at its own. -/
theorem Mgr.sp_spec {M : Mgr} (wf : M.WF) {f : Nat} (hf : M.stored f) {i : Nat} (hi : i < M.n) (hd : i ≤ M.depth f) :
    M.stored (M.sp f (M.ord i)).1 ∧ M.stored (M.sp f (M.ord i)).2 ∧ i < M.depth (M.sp f (M.ord i)).1 ∧ i < M.depth (M.sp f (M.ord i)).2 ∧
    (∀ a, M.sem (M.sp f (M.ord i)).1 a = M.sem f (upd a (M.ord i) false)) ∧ (∀ a, M.sem (M.sp f (M.ord i)).2 a = M.sem f (upd a (M.ord i) true)) := by
  obtain ⟨o1, o2⟩ := wf.lo_ i hi
  unfold sp
  by_cases e : (M.nd f).1 = (M.ord i : Int)
  · rw [if_pos e]
    have h2 : 2 ≤ f := by
      rcases Nat.lt_or_ge f 2 with h | h
      · exfalso
        have : f = 0 ∨ f = 1 := by omega
        rcases this with rfl | rfl
        · rw [wf.nd0] at e; simp at e
        · rw [wf.nd1] at e; simp at e
      · exact h
    obtain ⟨_, _, sl, sh, _, dl, dh⟩ := node_of wf hf h2
    have hv : (M.nd f).1.toNat = M.ord i := by omega
    have hdd : M.depth f = i := by unfold depth; rw [if_neg (by omega), hv, o2]
    refine ⟨sl, sh, by omega, by omega, fun a => ?_, fun a => ?_⟩
    · rw [sem_lo wf hf h2, hv]
    · rw [sem_hi wf hf h2, hv]
  · rw [if_neg e]
    have hlt : i < M.depth f := by
      rcases Nat.lt_or_ge i (M.depth f) with h | h
      · exact h
      · exfalso
        have hde : M.depth f = i := by omega
        have h2 : 2 ≤ f := by
          rcases Nat.lt_or_ge f 2 with h | h
          · unfold depth at hde; rw [if_pos h] at hde; omega
          · exact h
        obtain ⟨v0, v1, _⟩ := node_of wf hf h2
        have hd2 : M.depth f = M.lev (M.nd f).1.toNat := by unfold depth; rw [if_neg (by omega)]
        have : (M.nd f).1.toNat = M.ord i := by rw [← hde, hd2, (wf.ol _ (by omega)).2]
        omega
    exact ⟨hf, hf, hlt, hlt, fun a => by rw [sem_upd wf hf _ _ _ (by omega)], fun a => by rw [sem_upd wf hf _ _ _ (by omega)]⟩

/-- How 'ite' goes on at the first level that one of its arguments reads. -/
structure Plan (M : Mgr) (f g h k i j : Nat) (A B : Mgr × Nat) : Prop where
  hi : i < M.n
  hj : j < k
  hij : M.n - j = i + 1
  jn : j ≤ M.n
  min : (if dI M h < (if dI M g < dI M f then dI M g else dI M f) then dI M h else (if dI M g < dI M f then dI M g else dI M f)) = (i : Int)
  pf : M.stored (M.sp f (M.ord i)).1 ∧ M.stored (M.sp f (M.ord i)).2 ∧ M.n - j ≤ M.depth (M.sp f (M.ord i)).1 ∧ M.n - j ≤ M.depth (M.sp f (M.ord i)).2
  pg : M.stored (M.sp g (M.ord i)).1 ∧ M.stored (M.sp g (M.ord i)).2 ∧ M.n - j ≤ M.depth (M.sp g (M.ord i)).1 ∧ M.n - j ≤ M.depth (M.sp g (M.ord i)).2
  ph : M.stored (M.sp h (M.ord i)).1 ∧ M.stored (M.sp h (M.ord i)).2 ∧ M.n - j ≤ M.depth (M.sp h (M.ord i)).1 ∧ M.n - j ≤ M.depth (M.sp h (M.ord i)).2
  eA : A = Mgr.build j M (iteF M (M.sp f (M.ord i)).1 (M.sp g (M.ord i)).1 (M.sp h (M.ord i)).1)
  sA : M.BuildSpec (M.n - j) (iteF M (M.sp f (M.ord i)).1 (M.sp g (M.ord i)).1 (M.sp h (M.ord i)).1) A.1 A.2
  eB : B = Mgr.build j A.1 (iteF A.1 (M.sp f (M.ord i)).2 (M.sp g (M.ord i)).2 (M.sp h (M.ord i)).2)
  sB : A.1.BuildSpec (A.1.n - j) (iteF A.1 (M.sp f (M.ord i)).2 (M.sp g (M.ord i)).2 (M.sp h (M.ord i)).2) B.1 B.2
  v : M.ord i < B.1.n
  dA : B.1.lev (M.ord i) < B.1.depth A.2
  dB : B.1.lev (M.ord i) < B.1.depth B.2
  fin : Mgr.build k M (iteF M f g h) = B.1.put (M.ord i) A.2 B.2
  lA : A.1.nodes.length ≤ (B.1.put (M.ord i) A.2 B.2).1.nodes.length
  lB : B.1.nodes.length ≤ (B.1.put (M.ord i) A.2 B.2).1.nodes.length
  sem : ∀ a, (B.1.put (M.ord i) A.2 B.2).1.sem (B.1.put (M.ord i) A.2 B.2).2 a = iteF M f g h a
  st : (B.1.put (M.ord i) A.2 B.2).1.stored (B.1.put (M.ord i) A.2 B.2).2
  ext : M.Ext (B.1.put (M.ord i) A.2 B.2).1

theorem plan {M : Mgr} (wf : M.WF) {f g h k : Nat} (sf : M.stored f) (sg : M.stored g) (sh : M.stored h) (h2 : 2 ≤ f) (hk : k ≤ M.n) (df : M.n - k ≤ M.depth f) (dg : M.n - k ≤ M.depth g) (dh : M.n - k ≤ M.depth h) :
    ∃ i j A B, Plan M f g h k i j A B := by
  have hdf := M.depth_lt wf sf h2
  obtain ⟨i, hi⟩ : ∃ i, i = Nat.min (M.depth h) (Nat.min (M.depth g) (M.depth f)) := ⟨_, rfl⟩
  have hmn : ∀ x y : Nat, Nat.min x y = if x ≤ y then x else y := fun x y => by show min x y = _; rw [Nat.min_def]
  have i1 : i ≤ M.depth f ∧ i ≤ M.depth g ∧ i ≤ M.depth h ∧ M.n - k ≤ i ∧ i < M.n := by
    rw [hmn, hmn] at hi
    split at hi <;> (try split at hi) <;> omega
  obtain ⟨if_, ig, ih, ik, il⟩ := i1
  have hmin : (if dI M h < (if dI M g < dI M f then dI M g else dI M f) then dI M h else (if dI M g < dI M f then dI M g else dI M f)) = (i : Int) := by
    rw [hmn, hmn] at hi
    unfold dI
    split at hi <;> (try split at hi) <;> (repeat' split) <;> omega
  obtain ⟨a1, a2, a3, a4, a5, a6⟩ := M.sp_spec wf sf il if_
  obtain ⟨b1, b2, b3, b4, b5, b6⟩ := M.sp_spec wf sg il ig
  obtain ⟨c1, c2, c3, c4, c5, c6⟩ := M.sp_spec wf sh il ih
  obtain ⟨j, hj⟩ : ∃ j, j + 1 + i = M.n := ⟨M.n - (i + 1), by omega⟩
  have hnj : M.n - j = i + 1 := by omega
  have hni : M.n - (j + 1) = i := by omega
  have rA : M.Reads (M.n - j) (iteF M (M.sp f (M.ord i)).1 (M.sp g (M.ord i)).1 (M.sp h (M.ord i)).1) := iteF_reads wf a1 b1 c1 (by omega) (by omega) (by omega)
  have sA := Mgr.build_spec j M wf (by omega) _ rA
  generalize hA : Mgr.build j M (iteF M (M.sp f (M.ord i)).1 (M.sp g (M.ord i)).1 (M.sp h (M.ord i)).1) = A at sA
  have nA := sA.ext.n
  have rB : A.1.Reads (A.1.n - j) (iteF A.1 (M.sp f (M.ord i)).2 (M.sp g (M.ord i)).2 (M.sp h (M.ord i)).2) :=
    iteF_reads sA.wf (sA.ext.stored a2) (sA.ext.stored b2) (sA.ext.stored c2) (by rw [sA.ext.depth a2]; omega) (by rw [sA.ext.depth b2]; omega) (by rw [sA.ext.depth c2]; omega)
  have sB := Mgr.build_spec j A.1 sA.wf (by omega) _ rB
  generalize hB : Mgr.build j A.1 (iteF A.1 (M.sp f (M.ord i)).2 (M.sp g (M.ord i)).2 (M.sp h (M.ord i)).2) = B at sB
  have nB := sB.ext.n
  have lv : B.1.lev (M.ord i) = i := by rw [sB.ext.lev, sA.ext.lev]; exact (wf.lo_ i il).2
  have q1 := sA.dep
  have q2 := sB.dep
  have dA : B.1.lev (M.ord i) < B.1.depth A.2 := by rw [lv, sB.ext.depth sA.st]; omega
  have dB : B.1.lev (M.ord i) < B.1.depth B.2 := by rw [lv]; omega
  have hv : M.ord i < B.1.n := by have := (wf.lo_ i il).1; omega
  have ps := Mgr.put_spec sB.wf hv (sB.ext.stored sA.st) sB.st dA dB
  have e0 : iteF M (M.sp f (M.ord i)).1 (M.sp g (M.ord i)).1 (M.sp h (M.ord i)).1 = fun a => iteF M f g h (Mgr.upd a (M.ord i) false) := by
    funext a; unfold iteF; rw [a5, b5, c5]
  have e1 : iteF A.1 (M.sp f (M.ord i)).2 (M.sp g (M.ord i)).2 (M.sp h (M.ord i)).2 = fun a => iteF M f g h (Mgr.upd a (M.ord i) true) := by
    funext a; unfold iteF; rw [sA.ext.sem wf a2, sA.ext.sem wf b2, sA.ext.sem wf c2, a6, b6, c6]
  have fin : Mgr.build k M (iteF M f g h) = B.1.put (M.ord i) A.2 B.2 := by
    obtain ⟨d, hd⟩ : ∃ d, k = (j + 1) + d := ⟨k - (j + 1), by omega⟩
    rw [hd, Mgr.build_skips wf d (by omega) (iteF_reads wf sf sg sh (by omega) (by omega) (by omega))]
    unfold Mgr.build
    simp only [hni]
    rw [← e0, hA, ← e1, hB]
  have sF := Mgr.build_spec k M wf hk _ (iteF_reads wf sf sg sh df dg dh)
  rw [fin] at sF
  exact ⟨i, j, A, B, ⟨il, by omega, hnj, by omega, hmin, ⟨a1, a2, by omega, by omega⟩, ⟨b1, b2, by omega, by omega⟩, ⟨c1, c2, by omega, by omega⟩, hA.symm, sA, hB.symm, sB, hv, dA, dB, fin,
    Nat.le_trans sB.ext.len ps.ext.len, ps.ext.len, sF.sem, sF.st, sF.ext⟩⟩

end Go.Proofs.Ytngbodmooddjbaa

namespace Go.Proofs.Ytngbodmooddjbaa
open Go.RowKit

/-- The triple with which 'ite' goes on. -/
def Nrm (M : Mgr) (f g h : Nat) (k : Nat) (f2 g2 h2 : Nat) : Prop :=
  M.stored f2 ∧ M.stored g2 ∧ M.stored h2 ∧ 2 ≤ f2 ∧ iteF M f2 g2 h2 = iteF M f g h ∧ M.n - k ≤ M.depth f2 ∧ M.n - k ≤ M.depth g2 ∧ M.n - k ≤ M.depth h2

/-- What the slots hold behind the switch. -/
def Sw (M : Mgr) (f g h : Nat) (k : Nat) (w : World) (s1 s2 s3 : Value) (x : World) : Prop :=
  ∃ f2 g2 h2 : Nat, Nrm M f g h k f2 g2 h2 ∧ s1 = .int .i64 f2 ∧ s2 = .int .i64 g2 ∧ s3 = .int .i64 h2 ∧ x = w

theorem Mgr.depth_const (M : Mgr) {f : Nat} (h : f < 2) : M.depth f = M.n := by unfold depth; rw [if_pos h]

theorem iteF_norm (M : Mgr) (f g h : Nat) : iteF M f (if f = g then 1 else g) (if f = h then 0 else h) = iteF M f g h := by
  funext a
  unfold iteF
  by_cases e1 : f = g
  · rw [if_pos e1, ← e1]
    by_cases e2 : f = h
    · rw [if_pos e2, ← e2]; cases M.sem f a <;> simp
    · rw [if_neg e2]; cases M.sem f a <;> simp
  · rw [if_neg e1]
    by_cases e2 : f = h
    · rw [if_pos e2, ← e2]; cases M.sem f a <;> simp
    · rw [if_neg e2]

/-- The answer is there already. -/
theorem Ret.there {p : Nat} {M : Mgr} {L : Lay} {w : World} (R : Rep w p M L) {k : Nat} (hk : k ≤ M.n) {F : (Nat → Bool) → Bool} (hF : M.Reads (M.n - k) F) {r : Nat} (hr : M.stored r) (e : ∀ a, M.sem r a = F a) :
    Ret p L w (Mgr.build k M F).1 (.int .i64 (Mgr.build k M F).2) (.returned (.int .i64 r)) w := by
  rw [Mgr.build_there k M R.wf hk F hF r hr e]
  exact ⟨L, rfl, R, Kp.refl _ _, fun _ h => .inl h⟩

theorem Ret.no {p : Nat} {L : Lay} {w w1 w2 : World} {M' : Mgr} {v : Value} {e : Ending} (h : Ret p L w M' v e w1) (k : Kp No w1 w2) : Ret p L w M' v e w2 := by
  obtain ⟨L', he, r, kp, fr⟩ := h
  exact ⟨L', he, r.no k, kp.trans_no k, fr⟩

abbrev boxT (a b c : Int) : Obj := .cells #[.int .i64 a, .int .i64 b, .int .i64 c] 183 (0, 0)

theorem len_map {P : Program} {w : World} {b : Nat} {es : Array MapEntry} {clock : Nat} (h : w.heap[b]? = some (.map es clock)) {t kt et : TypeId} (ht : P.underlying t = some (.map kt et)) (u : TypeId) :
    (Builtin.len_ #[t] u #[.map (some b)]).run P w = .ok (.int .i64 (es.size : Int)) w := by
  simp [Builtin.len_, run_underlying ht, MapKept.run_getObj_map h, goInt]

theorem setCell_alloc_comm {w : World} {p i : Nat} {v : Value} {o : Obj} (h : p < w.heap.size) : (w.alloc o).setCell ⟨p, i, none⟩ v = (w.setCell ⟨p, i, none⟩ v).alloc o := by
  unfold World.setCell World.alloc
  congr 1
  apply Array.ext_getElem?
  intro k
  simp only [Array.getElem?_modify, Array.getElem?_push, Array.size_modify]
  by_cases e : p = k
  · subst e
    rw [if_pos rfl, if_neg (by omega), if_neg (by omega), if_pos rfl]
  · rw [if_neg e]
    split
    · rfl
    · rfl

def Sx (w0 : World) (p : Nat) (L0 : Lay) (B : Nat) (bx : Obj) (M : Mgr) (x : World) : Prop := ∃ L4, St w0 p L0 B bx x M L4

/-- The end of 'ite': the answer is remembered. -/
theorem ite_fin {w0 : World} {p : Nat} {L0 L : Lay} {B : Nat} {bx : Obj} {w w' : World} {M : Mgr} {F F' : Trip → Option Nat} {f g h r : Nat} (s : St w0 p L0 B bx w M L)
    (raw : Raw w p L M.order M.level M.nodes M.shown M.free M.uq F) (snd : M.Sound F) (hm : MapAs w' L.bm tripV natV F') (hk : Kp (fun x => x = L.bm) w w')
    (hF : F' = fun x => if x = ((f : Int), (g : Int), (h : Int)) then some r else F x) (sf : M.stored f) (sg : M.stored g) (sh : M.stored h) (sr : M.stored r) (e : ∀ a, M.sem r a = iteF M f g h a) :
    Ret p L0 w0 M (.int .i64 r) (.returned (.int .i64 r)) w' := by
  refine ⟨L, rfl, ⟨⟨F', raw.updMemo hm hk, ?_⟩, s.rep.wf⟩, s.kp.trans s.fr (hk.mono (fun k _ e => .inr (.inr (.inl e)))), s.fr⟩
  intro x y hy
  rw [hF] at hy
  simp only at hy
  split at hy
  · rename_i hx
    cases hy
    exact ⟨f, g, h, hx, sf, sg, sh, sr, e⟩
  · exact snd x y hy

set_option maxRecDepth 100000 in
set_option maxHeartbeats 2000000 in
theorem ite_step {k : Nat}
    (ih : ∀ (p : Nat) (M : Mgr) (L : Lay) (f g h : Nat) (w : World) (j : Nat), j < k → Rep w p M L → M.stored f → M.stored g → M.stored h → j ≤ M.n → M.n - j ≤ M.depth f → M.n - j ≤ M.depth g → M.n - j ≤ M.depth h →
      (Mgr.build j M (iteF M f g h)).1.nodes.length ≤ big →
      Calls Try.prog 102 #[ptr p, .int .i64 f, .int .i64 g, .int .i64 h] w (Ret p L w (Mgr.build j M (iteF M f g h)).1 (.int .i64 (Mgr.build j M (iteF M f g h)).2)))
    {p : Nat} {M : Mgr} {L : Lay} (f g h : Nat) {w : World} (R : Rep w p M L) (hf : M.stored f) (hg : M.stored g) (hh : M.stored h) (hk : k ≤ M.n) (df : M.n - k ≤ M.depth f) (dg : M.n - k ≤ M.depth g) (dh : M.n - k ≤ M.depth h)
    (hb : (Mgr.build k M (iteF M f g h)).1.nodes.length ≤ big) :
    Calls Try.prog 102 #[ptr p, .int .i64 f, .int .i64 g, .int .i64 h] w (Ret p L w (Mgr.build k M (iteF M f g h)).1 (.int .i64 (Mgr.build k M (iteF M f g h)).2)) := by
  have IH := Lib.hid ih
  clear ih
  have hF := iteF_reads R.wf hf hg hh df dg dh
  -- g and h behind the first two tests
  obtain ⟨g1, hg1⟩ : ∃ g1, g1 = if f = g then 1 else g := ⟨_, rfl⟩
  obtain ⟨h1, hh1⟩ : ∃ h1, h1 = if f = h then 0 else h := ⟨_, rfl⟩
  have sg1 : M.stored g1 := by rw [hg1]; split; exact .inl (by omega); exact hg
  have sh1 : M.stored h1 := by rw [hh1]; split; exact .inl (by omega); exact hh
  have dg1 : M.n - k ≤ M.depth g1 := by
    rw [hg1]; split
    · rw [M.depth_const (by omega)]; omega
    · exact dg
  have dh1 : M.n - k ≤ M.depth h1 := by
    rw [hh1]; split
    · rw [M.depth_const (by omega)]; omega
    · exact dh
  have eF : iteF M f g1 h1 = iteF M f g h := by rw [hg1, hh1]; exact iteF_norm M f g h
  have rF : M.Reads (M.n - k) (iteF M f g1 h1) := by rw [eF]; exact hF
  have THERE : Hid (∀ r, M.stored r → (∀ a, M.sem r a = iteF M f g1 h1 a) → Ret p L w (Mgr.build k M (iteF M f g h)).1 (.int .i64 (Mgr.build k M (iteF M f g h)).2) (.returned (.int .i64 r)) w) := fun r hr e => by
    rw [← eF]; exact Ret.there R hk rF hr e
  have HG1 := Lib.hid hg1
  have HH1 := Lib.hid hh1
  have EF := Lib.hid eF
  have HR := Lib.hid R
  have HF := Lib.hid hF
  have HB := Lib.hid hb
  have SF := Lib.hid hf
  have SG1 := Lib.hid sg1
  have SH1 := Lib.hid sh1
  clear hg1 hh1 eF rF R hF hb hg hh dg dh hf sg1 sh1
  go_enter Try.func102, Try.ntmps102
  go_upto_if 24 with (fail)
  go_cut [2] (fun s2 x => s2 = .int .i64 (g1 : Int) ∧ x = w)
  case first =>
    by_cases e : f = g
    · have b : ((f : Int) == (g : Int)) = true := by simp [e]
      have e1 : g1 = 1 := by rw [HG1.out, if_pos e]
      have E1 := Lib.hid e1
      clear e1 e
      go_wp2
      go_meet
      case rel => exact ⟨by rw [E1.out]; rfl, rfl⟩
    · have b : ((f : Int) == (g : Int)) = false := by simp; omega
      have e1 : g1 = g := by rw [HG1.out, if_neg e]
      have E1 := Lib.hid e1
      clear e1 e
      go_wp2
      go_meet
      case rel => exact ⟨by rw [E1.out], rfl⟩
  case rest =>
  obtain ⟨hs, hw⟩ := hcut
  replace hw := hw.symm
  subst hs hw
  go_upto_if 27 with (fail)
  go_cut [3] (fun s3 x => s3 = .int .i64 (h1 : Int) ∧ x = w)
  case first =>
    by_cases e : f = h
    · have b : ((f : Int) == (h : Int)) = true := by simp [e]
      have e1 : h1 = 0 := by rw [HH1.out, if_pos e]
      have E1 := Lib.hid e1
      clear e1 e
      go_wp2
      go_meet
      case rel => exact ⟨by rw [E1.out]; rfl, rfl⟩
    · have b : ((f : Int) == (h : Int)) = false := by simp; omega
      have e1 : h1 = h := by rw [HH1.out, if_neg e]
      have E1 := Lib.hid e1
      clear e1 e
      go_wp2
      go_meet
      case rel => exact ⟨by rw [E1.out], rfl⟩
  case rest =>
  obtain ⟨hs, hw⟩ := hcut
  replace hw := hw.symm
  subst hs hw
  clear HG1 HH1
  go_upto_block 0 with (fail)
  go_cut [1, 2, 3] (fun s1 s2 s3 x => Sw M f g h k w s1 s2 s3 x)
  case first =>
    by_cases e1 : f = 1
    · have b1 : ((f : Int) == 1) = true := by simp [e1]
      have RET := Lib.hid (THERE.out g1 SG1.out (fun a => by simp [iteF, e1]))
      clear e1
      go_wp2
      go_ret
      exact RET.out
    · have b1 : ((f : Int) == 1) = false := by simp; omega
      by_cases e0 : f = 0
      · have b0 : ((f : Int) == 0) = true := by simp [e0]
        have RET := Lib.hid (THERE.out h1 SH1.out (fun a => by simp [iteF, e0]))
        clear e0 e1
        go_wp2
        go_ret
        exact RET.out
      · have b0 : ((f : Int) == 0) = false := by simp; omega
        have f2 : 2 ≤ f := by omega
        by_cases e2 : g1 = h1
        · have b2 : ((g1 : Int) == (h1 : Int)) = true := by simp [e2]
          have RET := Lib.hid (THERE.out g1 SG1.out (fun a => by simp [iteF, e2]))
          clear e0 e1 e2
          go_wp2
          go_ret
          exact RET.out
        · have b2 : ((g1 : Int) == (h1 : Int)) = false := by simp; omega
          by_cases eg : g1 = 1
          · have bg : ((g1 : Int) == 1) = true := by simp [eg]
            by_cases eh : h1 = 0
            · have bh : ((h1 : Int) == 0) = true := by simp [eh]
              have RET := Lib.hid (THERE.out f SF.out (fun a => by simp [iteF, eg, eh]))
              clear e0 e1 e2 eg eh
              go_wp2
              go_ret
              exact RET.out
            · have bh : ((h1 : Int) == 0) = false := by simp; omega
              by_cases el : h1 < f
              · have bl : decide ((h1 : Int) < (f : Int)) = true := by simp; omega
                have bl2 : (h1 : Int) < (f : Int) := by omega
                have SW : Hid (Sw M f g h k w (.int .i64 h1) (.int .i64 g1) (.int .i64 f) w) := ⟨h1, g1, f, ⟨SH1.out, SG1.out, SF.out, by omega, by rw [← EF.out]; funext a; simp [iteF, eg, Bool.or_comm], dh1, dg1, df⟩, rfl, rfl, rfl, rfl⟩
                clear e0 e1 e2 eg eh el
                go_wp2
                go_meet
                case rel => exact SW.out
              · have bl : decide ((h1 : Int) < (f : Int)) = false := by simp; omega
                have bl2 : ¬ (h1 : Int) < (f : Int) := by omega
                have SW : Hid (Sw M f g h k w (.int .i64 f) (.int .i64 g1) (.int .i64 h1) w) := ⟨f, g1, h1, ⟨SF.out, SG1.out, SH1.out, f2, EF.out, df, dg1, dh1⟩, rfl, rfl, rfl, rfl⟩
                clear e0 e1 e2 eg eh el
                go_wp2
                go_meet
                case rel => exact SW.out
          · have bg : ((g1 : Int) == 1) = false := by simp; omega
            by_cases eh : h1 = 0
            · have bh : ((h1 : Int) == 0) = true := by simp [eh]
              by_cases el : g1 < f
              · have bl : decide ((g1 : Int) < (f : Int)) = true := by simp; omega
                have bl2 : (g1 : Int) < (f : Int) := by omega
                have SW : Hid (Sw M f g h k w (.int .i64 g1) (.int .i64 f) (.int .i64 h1) w) := ⟨g1, f, h1, ⟨SG1.out, SF.out, SH1.out, by omega, by rw [← EF.out]; funext a; simp [iteF, eh, Bool.and_comm], dg1, df, dh1⟩, rfl, rfl, rfl, rfl⟩
                clear e0 e1 e2 eg eh el
                go_wp2
                go_meet
                case rel => exact SW.out
              · have bl : decide ((g1 : Int) < (f : Int)) = false := by simp; omega
                have bl2 : ¬ (g1 : Int) < (f : Int) := by omega
                have SW : Hid (Sw M f g h k w (.int .i64 f) (.int .i64 g1) (.int .i64 h1) w) := ⟨f, g1, h1, ⟨SF.out, SG1.out, SH1.out, f2, EF.out, df, dg1, dh1⟩, rfl, rfl, rfl, rfl⟩
                clear e0 e1 e2 eg eh el
                go_wp2
                go_meet
                case rel => exact SW.out
            · have bh : ((h1 : Int) == 0) = false := by simp; omega
              have SW : Hid (Sw M f g h k w (.int .i64 f) (.int .i64 g1) (.int .i64 h1) w) := ⟨f, g1, h1, ⟨SF.out, SG1.out, SH1.out, f2, EF.out, df, dg1, dh1⟩, rfl, rfl, rfl, rfl⟩
              clear e0 e1 e2 eg eh
              go_wp2
              go_meet
              case rel => exact SW.out
  case rest =>
  obtain ⟨f2, g2, h2, nrm, hs1, hs2, hs3, hw⟩ := hcut
  replace hw := hw.symm
  subst hs1 hs2 hs3 hw
  obtain ⟨sf, sg, sh, two, eq2, df2, dg2, dh2⟩ := nrm
  have R := HR.out
  obtain ⟨F, raw, snd⟩ := R.raw
  have c6 := raw.c6
  have plt := raw.plt
  have EQ2 := Lib.hid eq2
  have hl2 : ∀ n, (Instr.lookup 92 (.map (some L.bm)) (.agg #[.int .i64 f2, .int .i64 g2, .int .i64 h2]) true).run Try.prog ((w.alloc (boxT f2 g2 h2)).drewN n) = .ok (.tuple #[(((F ((f2 : Int), (g2 : Int), (h2 : Int))).map natV).getD (.int .i64 0)), .bool (F ((f2 : Int), (g2 : Int), (h2 : Int))).isSome]) ((w.alloc (boxT f2 g2 h2)).drewN n) := fun n =>
    (raw.memo.kp (Kp.trans_no (Kp.alloc (boxT f2 g2 h2)) (Kp.drewN n)) (fun x => x)).lookup keyTriple Try.underlying92 zeroRef ((f2 : Int), (g2 : Int), (h2 : Int)) true
  cases hFx : F ((f2 : Int), (g2 : Int), (h2 : Int)) with
  | some r =>
    obtain ⟨x1, x2, x3, hx, _, _, _, sr, hsem⟩ := snd _ r hFx
    simp only [Prod.mk.injEq, Int.natCast_inj] at hx
    obtain ⟨rfl, rfl, rfl⟩ := hx
    have RET := Lib.hid (THERE.out r sr (fun a => by rw [EF.out, ← eq2]; exact hsem a))
    rw [hFx] at hl2
    simp only [Option.map_some, Option.getD_some, Option.isSome_some, natV] at hl2
    clear raw snd hFx hsem R eq2 sf sg sh sr
    generalize L.bm = bm at *
    go_wp2
    go_quiet (fail)
    go_wp2
    go_ret
    exact (RET.out).no ((Kp.alloc _).trans_no (Kp.drewN _))
  | none =>
    rw [hFx] at hl2
    simp only [Option.map_none, Option.getD_none, Option.isSome_none] at hl2
    obtain ⟨i, j, A, B, pl⟩ := plan R.wf sf sg sh two hk df2 dg2 dh2
    have FQ : Mgr.build k M (iteF M f g h) = B.1.put (M.ord i) A.2 B.2 := by rw [← EQ2.out]; exact pl.fin
    have hb2 : (B.1.put (M.ord i) A.2 B.2).1.nodes.length ≤ big := by rw [← FQ]; exact HB.out
    have FIN : Hid (Mgr.build k M (iteF M f g h) = B.1.put (M.ord i) A.2 B.2) := FQ
    have PL := Lib.hid pl
    have WF := Lib.hid R.wf
    have HB2 := Lib.hid hb2
    have st0 := Lib.hid (St.start R (boxT f2 g2 h2))
    clear FQ raw snd hFx R eq2 HB HR THERE EF SF SG1 SH1 HF df dg1 dh1 pl hb2
    generalize L.bm = bm at *
    go_wp2
    go_quiet (fail)
    go_wp2
    have s1 : St w p L w.heap.size (boxT f2 g2 h2) ((w.alloc (Obj.cells #[.int .i64 f2, .int .i64 g2, .int .i64 h2] 183)).drewN nq) M L := st0.out.no (Kp.drewN nq)
    clear hl2 st0 c6
    generalize ((w.alloc (Obj.cells #[.int .i64 f2, .int .i64 g2, .int .i64 h2] 183)).drewN nq) = W1 at *
    obtain ⟨F1, raw1, snd1⟩ := s1.rep.raw
    have S1 := Lib.hid s1
    obtain ⟨bo, co, hso, hc1, hc2, hoi⟩ := ownsRow_nats raw1.order i PL.out.hi
    have c0 := raw1.c0
    rw [hso] at c0
    unfold natV at hoi
    have mn := PL.out.min
    have hin : (i : Int) < M.order.length := by have := PL.out.hi; unfold Mgr.n at this; omega
    have hm := maxLen_val
    have hle : M.order.length ≤ 9223372036854775807 := by omega
    clear raw1 snd1 hso hc1 hc2 hm s1
    rw [show M.order.getD i 0 = M.ord i from rfl] at hoi
    generalize M.order.length = nO at *
    go_quiet ((go_at_call 122; exact Calls.quiet_of (depth_I _ (S1.out.rep.no (Kp.drewN _)) (by assumption))))
    have s2 := S1.out.no (Kp.drewN nq)
    clear S1 c0 hoi mn hin
    generalize W1.drewN nq = W2 at *
    go_wp2_with fail
    refine (split_ok f2 (M.ord i) s2.rep sf).mono ?_
    rintro e w1 ⟨rfl, hk1⟩
    have s3 := s2.no hk1
    clear s2 hk1
    go_wp2_with fail
    refine (split_ok g2 (M.ord i) s3.rep sg).mono ?_
    rintro e w2 ⟨rfl, hk1⟩
    have s4 := s3.no hk1
    clear s3 hk1
    go_wp2_with fail
    refine (split_ok h2 (M.ord i) s4.rep sh).mono ?_
    rintro e w3 ⟨rfl, hk1⟩
    have s5 := s4.no hk1
    clear s4 hk1
    have bA : A.1.nodes.length ≤ big := Nat.le_trans PL.out.lA HB2.out
    have bB : B.1.nodes.length ≤ big := Nat.le_trans PL.out.lB HB2.out
    have BA := Lib.hid bA
    have BB := Lib.hid bB
    clear bA bB
    go_wp2_with fail
    refine (IH.out p M L _ _ _ w3 j PL.out.hj s5.rep PL.out.pf.1 PL.out.pg.1 PL.out.ph.1 PL.out.jn PL.out.pf.2.2.1 PL.out.pg.2.2.1 PL.out.ph.2.2.1 (by rw [← PL.out.eA]; exact BA.out)).mono ?_
    intro e w4 hret
    rw [← PL.out.eA] at hret
    obtain ⟨rfl, L1, s6⟩ := s5.step hret
    clear hret s5
    go_wp2_with fail
    refine (IH.out p A.1 L1 _ _ _ w4 j PL.out.hj s6.rep (PL.out.sA.ext.stored PL.out.pf.2.1) (PL.out.sA.ext.stored PL.out.pg.2.1) (PL.out.sA.ext.stored PL.out.ph.2.1) (by rw [PL.out.sA.ext.n]; exact PL.out.jn)
      (by rw [PL.out.sA.ext.n, PL.out.sA.ext.depth PL.out.pf.2.1]; exact PL.out.pf.2.2.2) (by rw [PL.out.sA.ext.n, PL.out.sA.ext.depth PL.out.pg.2.1]; exact PL.out.pg.2.2.2) (by rw [PL.out.sA.ext.n, PL.out.sA.ext.depth PL.out.ph.2.1]; exact PL.out.ph.2.2.2)
      (by rw [← PL.out.eB]; exact BB.out)).mono ?_
    intro e w5 hret
    rw [← PL.out.eB] at hret
    obtain ⟨rfl, L2, s7⟩ := s6.step hret
    clear hret s6
    go_wp2_with fail
    refine (node_ok (M.ord i) A.2 B.2 s7.rep PL.out.v (PL.out.sB.ext.stored PL.out.sA.st) PL.out.sB.st PL.out.dA PL.out.dB HB2.out).mono ?_
    intro e w6 hret
    obtain ⟨rfl, L3, s8⟩ := s7.step hret
    clear hret s7
    have sf3 := PL.out.ext.stored sf
    have sg3 := PL.out.ext.stored sg
    have sh3 := PL.out.ext.stored sh
    have sr3 := PL.out.st
    have se3 : ∀ a, (B.1.put (M.ord i) A.2 B.2).1.sem (B.1.put (M.ord i) A.2 B.2).2 a = iteF (B.1.put (M.ord i) A.2 B.2).1 f2 g2 h2 a := fun a => by
      rw [PL.out.sem]; unfold iteF; rw [PL.out.ext.sem WF.out sf, PL.out.ext.sem WF.out sg, PL.out.ext.sem WF.out sh]
    have SE3 := Lib.hid se3
    clear se3 PL HB2 BA BB IH sf sg sh two df2 dg2 dh2 WF
    generalize B.1.put (M.ord i) A.2 B.2 = Pt at *
    obtain ⟨F8, raw8, snd8⟩ := s8.rep.raw
    obtain ⟨es, clock, hes, hrest⟩ := raw8.memo
    have c6 := raw8.c6
    have S8 := Lib.hid s8
    have p8 := raw8.plt
    have z6 := raw8.fz 6
    have hbm := heap_lt hes
    have FIN' := FIN
    clear hrest s8 FIN
    have R8 := Lib.hid raw8
    have SN8 := Lib.hid snd8
    clear raw8 snd8
    have hmm := @run_makeMap Try.prog
    have hlen : (Builtin.len_ #[92] 3 #[.map (some L3.bm)]).run Try.prog w6 = .ok (.int .i64 (es.size : Int)) w6 := len_map hes Try.underlying92 _
    generalize (es.size : Int) = z at hlen
    clear hes
    go_upto_if 141 with (fail)
    go_cut [] (fun x => Sx w p L w.heap.size (boxT f2 g2 h2) Pt.1 x)
    case first =>
      by_cases hsz : 1048576 ≤ z
      · go_wp2
        go_meet
        case rel =>
          rw [← setCell_alloc_comm p8]
          refine ⟨{ L3 with bm := w6.heap.size }, ⟨⟨fun _ => none, (R8.out.no (Kp.alloc _)).setMemo (MapAs.empty w6 tripV natV) (fun e => by have := R8.out.uniq.lt; omega), fun x r h => by cases h⟩, S8.out.rep.wf⟩, ?_, ?_, ?_, S8.out.bh, ?_⟩
          · exact (S8.out.kp.trans_no (Kp.alloc _)).trans (A' := L3.at p) S8.out.fr ((Kp.setCell _ _).mono (fun k _ e => .inl e))
          · intro k hk
            rcases hk with h | h | h | h
            · exact S8.out.fr k (.inl h)
            · exact S8.out.fr k (.inr (.inl h))
            · right; have := S8.out.kp.size; simp at h; omega
            · exact S8.out.fr k (.inr (.inr (.inr h)))
          · rw [Below.heap_setCell _ _ _ _ (fun e => S8.out.bn (.inl e)), Below.heap_alloc _ _ _ (heap_lt S8.out.box)]; exact S8.out.box
          · intro h
            rcases h with h | h | h | h
            · exact S8.out.bn (.inl h)
            · exact S8.out.bn (.inr (.inl h))
            · have := heap_lt S8.out.box; simp at h; omega
            · exact S8.out.bn (.inr (.inr (.inr h)))
      · go_wp2
        go_meet
        case rel => exact ⟨L3, S8.out⟩
    case rest =>
    obtain ⟨L4, s9⟩ := hcut
    clear c6 z6 hmm hlen hbm p8 S8 R8 SN8
    obtain ⟨F9, raw9, snd9⟩ := s9.rep.raw
    have c6 := raw9.c6
    obtain ⟨w7, hupd, hmap, hk7, _⟩ := raw9.memo.update keyTriple Try.underlying92 ((f2 : Int), (g2 : Int), (h2 : Int)) Pt.2
    have up : (Instr.mapUpdate 92 (.map (some L4.bm)) (.agg #[.int .i64 f2, .int .i64 g2, .int .i64 h2]) (.int .i64 Pt.2)).run Try.prog wc.drew = .ok () w7.drew := hupd 1
    have RET := Lib.hid ((ite_fin s9 raw9 snd9 hmap hk7 rfl sf3 sg3 sh3 sr3 SE3.out).no Kp.drew)
    have e0 : wc.cell? ⟨w.heap.size, 0, none⟩ = some (.int .i64 f2) := by simp [World.cell?, s9.box]
    have e1 : wc.cell? ⟨w.heap.size, 1, none⟩ = some (.int .i64 g2) := by simp [World.cell?, s9.box]
    have e2 : wc.cell? ⟨w.heap.size, 2, none⟩ = some (.int .i64 h2) := by simp [World.cell?, s9.box]
    clear hupd hmap hk7 raw9 snd9 s9 SE3 sf3 sg3 sh3 sr3
    generalize L4.bm = bm4 at *
    go_wp2
    go_region
    go_wp2
    go_ret
    rw [FIN'.out]
    exact RET.out

/-- The contract of 'ite', at the levels that are left. -/
theorem ite_at (k : Nat) : ∀ (p : Nat) (M : Mgr) (L : Lay) (f g h : Nat) (w : World), Rep w p M L → M.stored f → M.stored g → M.stored h → k ≤ M.n → M.n - k ≤ M.depth f → M.n - k ≤ M.depth g → M.n - k ≤ M.depth h →
    (Mgr.build k M (iteF M f g h)).1.nodes.length ≤ big →
    Calls Try.prog 102 #[ptr p, .int .i64 f, .int .i64 g, .int .i64 h] w (Ret p L w (Mgr.build k M (iteF M f g h)).1 (.int .i64 (Mgr.build k M (iteF M f g h)).2)) := by
  induction k using Nat.strongRecOn with
  | _ k ih =>
    intro p M L f g h w R sf sg sh hk df dg dh hb
    exact ite_step (fun p M L f g h w j hj R sf sg sh hk df dg dh hb => ih j hj p M L f g h w R sf sg sh hk df dg dh hb) f g h R sf sg sh hk df dg dh hb

/-- The contract of 'ite'. -/
theorem ite_ok {p : Nat} {M : Mgr} {L : Lay} (f g h : Nat) {w : World} (R : Rep w p M L) (sf : M.stored f) (sg : M.stored g) (sh : M.stored h) (hb : (Mgr.build M.n M (iteF M f g h)).1.nodes.length ≤ big) :
    Calls Try.prog 102 #[ptr p, .int .i64 f, .int .i64 g, .int .i64 h] w (Ret p L w (Mgr.build M.n M (iteF M f g h)).1 (.int .i64 (Mgr.build M.n M (iteF M f g h)).2)) :=
  ite_at M.n p M L f g h w R sf sg sh (Nat.le_refl _) (by omega) (by omega) (by omega) hb

end Go.Proofs.Ytngbodmooddjbaa

namespace Go.Proofs.Ytngbodmooddjbaa
open Go.RowKit

namespace Mgr
def iteM (M : Mgr) (f g h : Int) : Mgr × Int :=
  if M.valid f = true ∧ M.valid g = true ∧ M.valid h = true then
    let b := build M.n M (iteF M f.toNat g.toNat h.toNat)
    (b.1.show b.2, (b.2 : Int))
  else (M, -1)
def notM (M : Mgr) (f : Int) : Mgr × Int := M.iteM f 0 1
def andM (M : Mgr) (f g : Int) : Mgr × Int := M.iteM f g 0
def orM (M : Mgr) (f g : Int) : Mgr × Int := M.iteM f 1 g
def xorM (M : Mgr) (f g : Int) : Mgr × Int :=
  if M.valid f = true ∧ M.valid g = true then
    let b := build M.n M (iteF M g.toNat 0 1)
    let c := build M.n b.1 (iteF b.1 f.toNat b.2 g.toNat)
    (c.1.show c.2, (c.2 : Int))
  else (M, -1)
def varM (M : Mgr) (v : Int) : Mgr × Int :=
  if 0 ≤ v ∧ v < M.n then
    let b := M.put v.toNat 0 1
    (b.1.show b.2, (b.2 : Int))
  else (M, -1)

theorem valid_nat {M : Mgr} (h : M.WF) {f : Int} (hf : M.valid f = true) : ∃ n : Nat, f = (n : Int) ∧ M.stored n ∧ M.vis n = true := by
  unfold valid at hf
  simp only [Bool.and_eq_true, decide_eq_true_eq] at hf
  refine ⟨f.toNat, by omega, h.shst _ hf.2, hf.2⟩

theorem lev_lt_const {M : Mgr} (h : M.WF) {v f : Nat} (hv : v < M.n) (hf : f < 2) : M.lev v < M.depth f := by
  rw [M.depth_const hf]; exact (h.ol v hv).1
end Mgr

theorem Ret.same {p : Nat} {M : Mgr} {L : Lay} {w : World} {v : Value} (R : Rep w p M L) : Ret p L w M v (.returned v) w := ⟨L, rfl, R, Kp.refl _ _, fun _ h => .inl h⟩

/-- A state on the way. -/
structure Sd (w0 : World) (p : Nat) (L0 : Lay) (w : World) (M : Mgr) (L : Lay) : Prop where
  rep : Rep w p M L
  kp : Kp (L0.at p) w0 w
  fr : Fresh (L0.at p) (L.at p) w0
theorem Sd.start {w : World} {p : Nat} {M : Mgr} {L : Lay} (R : Rep w p M L) : Sd w p L w M L := ⟨R, Kp.refl _ _, fun _ h => .inl h⟩
theorem Sd.no {w0 : World} {p : Nat} {L0 : Lay} {w w' : World} {M : Mgr} {L : Lay} (s : Sd w0 p L0 w M L) (h : Kp No w w') : Sd w0 p L0 w' M L := ⟨s.rep.no h, s.kp.trans_no h, s.fr⟩
theorem Sd.step {w0 : World} {p : Nat} {L0 : Lay} {w w' : World} {M M' : Mgr} {L : Lay} {v : Value} {e : Ending} (s : Sd w0 p L0 w M L) (h : Ret p L w M' v e w') : e = .returned v ∧ ∃ L', Sd w0 p L0 w' M' L' := by
  obtain ⟨L', he, r, k, f⟩ := h
  refine ⟨he, L', r, s.kp.trans s.fr k, fun x hx => ?_⟩
  rcases f x hx with h1 | h1
  · exact s.fr x h1
  · right; have := s.kp.size; omega
theorem Sd.ret {w0 : World} {p : Nat} {L0 : Lay} {w : World} {M : Mgr} {L : Lay} (s : Sd w0 p L0 w M L) (v : Value) : Ret p L0 w0 M v (.returned v) w := ⟨L, rfl, s.rep, s.kp, s.fr⟩

set_option maxHeartbeats 400000 in
theorem Ite_ok {p : Nat} {M : Mgr} {L : Lay} (f g h : Int) {w : World} (R : Rep w p M L) (hb : (M.iteM f g h).1.nodes.length ≤ big) :
    Calls Try.prog 50 #[ptr p, .int .i64 f, .int .i64 g, .int .i64 h] w (Ret p L w (M.iteM f g h).1 (.int .i64 (M.iteM f g h).2)) := by
  by_cases hf : M.valid f = true
  · by_cases hg : M.valid g = true
    · by_cases hh : M.valid h = true
      · have e : M.iteM f g h = _ := if_pos ⟨hf, hg, hh⟩
        obtain ⟨f, rfl, sf, _⟩ := Mgr.valid_nat R.wf hf
        obtain ⟨g, rfl, sg, _⟩ := Mgr.valid_nat R.wf hg
        obtain ⟨h, rfl, sh, _⟩ := Mgr.valid_nat R.wf hh
        rw [e] at hb ⊢
        simp only [Int.toNat_natCast] at hb ⊢
        have sp := Mgr.build_spec M.n M R.wf (Nat.le_refl _) _ (iteF_reads R.wf sf sg sh (by omega) (by omega) (by omega))
        have hc := ite_ok f g h R sf sg sh hb
        generalize Mgr.build M.n M (iteF M f g h) = b at *
        have HC := Lib.hid hc
        have HS := Lib.hid sp.st
        have SF := Lib.hid hf
        have SG := Lib.hid hg
        have SH := Lib.hid hh
        clear hc hb e sp hf hg hh
        go_enter Try.func50, Try.ntmps50
        go_wp2_with fail
        refine (valid_as _ true R SF.out).mono ?_
        rintro e w' ⟨rfl, rfl⟩
        go_wp2_with fail
        refine (valid_as _ true R SG.out).mono ?_
        rintro e w' ⟨rfl, rfl⟩
        go_wp2_with fail
        refine (valid_as _ true R SH.out).mono ?_
        rintro e w' ⟨rfl, rfl⟩
        go_wp2_with fail
        refine HC.out.mono ?_
        intro e w1 h1
        obtain ⟨rfl, L1, s1⟩ := (Sd.start R).step h1
        clear h1
        go_wp2_with fail
        refine (show_ok b.2 s1.rep HS.out).mono ?_
        intro e w2 h2
        obtain ⟨rfl, L2, s2⟩ := s1.step h2
        clear h2 s1
        go_wp2_with fail
        go_ret
        exact s2.ret _
      · have e : M.iteM f g h = (M, -1) := if_neg (fun x => hh x.2.2)
        rw [e]
        have SF := Lib.hid hf
        have SG := Lib.hid hg
        have SH : Hid (M.valid h = false) := Lib.hid (by simpa using hh)
        clear hf hg hh e hb
        go_enter Try.func50, Try.ntmps50
        go_wp2_with fail
        refine (valid_as _ true R SF.out).mono ?_
        rintro e w' ⟨rfl, rfl⟩
        go_wp2_with fail
        refine (valid_as _ true R SG.out).mono ?_
        rintro e w' ⟨rfl, rfl⟩
        go_wp2_with fail
        refine (valid_as _ false R SH.out).mono ?_
        rintro e w' ⟨rfl, rfl⟩
        go_wp2_with fail
        go_ret
        exact Ret.same R
    · have e : M.iteM f g h = (M, -1) := if_neg (fun x => hg x.2.1)
      rw [e]
      have SF := Lib.hid hf
      have SG : Hid (M.valid g = false) := Lib.hid (by simpa using hg)
      clear hf hg e hb
      go_enter Try.func50, Try.ntmps50
      go_wp2_with fail
      refine (valid_as _ true R SF.out).mono ?_
      rintro e w' ⟨rfl, rfl⟩
      go_wp2_with fail
      refine (valid_as _ false R SG.out).mono ?_
      rintro e w' ⟨rfl, rfl⟩
      go_wp2_with fail
      go_ret
      exact Ret.same R
  · have e : M.iteM f g h = (M, -1) := if_neg (fun x => hf x.1)
    rw [e]
    have SF : Hid (M.valid f = false) := Lib.hid (by simpa using hf)
    clear hf e hb
    go_enter Try.func50, Try.ntmps50
    go_wp2_with fail
    refine (valid_as _ false R SF.out).mono ?_
    rintro e w' ⟨rfl, rfl⟩
    go_wp2_with fail
    go_ret
    exact Ret.same R

set_option maxHeartbeats 400000 in
theorem Not_ok {p : Nat} {M : Mgr} {L : Lay} (f : Int) {w : World} (R : Rep w p M L) (hb : (M.notM f).1.nodes.length ≤ big) :
    Calls Try.prog 27 #[ptr p, .int .i64 f] w (Ret p L w (M.notM f).1 (.int .i64 (M.notM f).2)) := by
  have hc := Lib.hid (Ite_ok f 0 1 R hb)
  clear hb
  go_enter Try.func27, Try.ntmps27
  go_wp2_with fail
  refine hc.out.mono ?_
  intro e w1 h1
  obtain ⟨rfl, L1, s1⟩ := (Sd.start R).step h1
  clear h1
  go_wp2_with fail
  go_ret
  exact s1.ret _

set_option maxHeartbeats 400000 in
theorem And_ok {p : Nat} {M : Mgr} {L : Lay} (f g : Int) {w : World} (R : Rep w p M L) (hb : (M.andM f g).1.nodes.length ≤ big) :
    Calls Try.prog 15 #[ptr p, .int .i64 f, .int .i64 g] w (Ret p L w (M.andM f g).1 (.int .i64 (M.andM f g).2)) := by
  have hc := Lib.hid (Ite_ok f g 0 R hb)
  clear hb
  go_enter Try.func15, Try.ntmps15
  go_wp2_with fail
  refine hc.out.mono ?_
  intro e w1 h1
  obtain ⟨rfl, L1, s1⟩ := (Sd.start R).step h1
  clear h1
  go_wp2_with fail
  go_ret
  exact s1.ret _

set_option maxHeartbeats 400000 in
theorem Or_ok {p : Nat} {M : Mgr} {L : Lay} (f g : Int) {w : World} (R : Rep w p M L) (hb : (M.orM f g).1.nodes.length ≤ big) :
    Calls Try.prog 13 #[ptr p, .int .i64 f, .int .i64 g] w (Ret p L w (M.orM f g).1 (.int .i64 (M.orM f g).2)) := by
  have hc := Lib.hid (Ite_ok f 1 g R hb)
  clear hb
  go_enter Try.func13, Try.ntmps13
  go_wp2_with fail
  refine hc.out.mono ?_
  intro e w1 h1
  obtain ⟨rfl, L1, s1⟩ := (Sd.start R).step h1
  clear h1
  go_wp2_with fail
  go_ret
  exact s1.ret _

set_option maxHeartbeats 400000 in
theorem Xor_ok {p : Nat} {M : Mgr} {L : Lay} (f g : Int) {w : World} (R : Rep w p M L) (hb : (M.xorM f g).1.nodes.length ≤ big) :
    Calls Try.prog 64 #[ptr p, .int .i64 f, .int .i64 g] w (Ret p L w (M.xorM f g).1 (.int .i64 (M.xorM f g).2)) := by
  by_cases hf : M.valid f = true
  · by_cases hg : M.valid g = true
    · have e : M.xorM f g = _ := if_pos ⟨hf, hg⟩
      obtain ⟨f, rfl, sf, _⟩ := Mgr.valid_nat R.wf hf
      obtain ⟨g, rfl, sg, _⟩ := Mgr.valid_nat R.wf hg
      rw [e] at hb ⊢
      simp only [Int.toNat_natCast] at hb ⊢
      have s0 : M.stored 0 := .inl (by omega)
      have s1 : M.stored 1 := .inl (by omega)
      have sp := Mgr.build_spec M.n M R.wf (Nat.le_refl _) _ (iteF_reads R.wf sg s0 s1 (by omega) (by omega) (by omega))
      have hc := fun hb => ite_ok g 0 1 R sg s0 s1 hb
      generalize Mgr.build M.n M (iteF M g 0 1) = b at *
      have sq := Mgr.build_spec M.n b.1 sp.wf (by rw [sp.ext.n]; omega) _ (iteF_reads sp.wf (sp.ext.stored sf) sp.st (sp.ext.stored sg) (by rw [sp.ext.n]; omega) (by rw [sp.ext.n]; omega) (by rw [sp.ext.n]; omega))
      have hd : ∀ (L1 : Lay) (w1 : World), Rep w1 p b.1 L1 → Calls Try.prog 102 #[ptr p, .int .i64 f, .int .i64 b.2, .int .i64 g] w1 (Ret p L1 w1 (Mgr.build M.n b.1 (iteF b.1 f b.2 g)).1 (.int .i64 (Mgr.build M.n b.1 (iteF b.1 f b.2 g)).2)) := fun L1 w1 R1 => by
        have := ite_ok f b.2 g R1 (sp.ext.stored sf) sp.st (sp.ext.stored sg)
        rw [sp.ext.n] at this
        exact this hb
      generalize Mgr.build M.n b.1 (iteF b.1 f b.2 g) = c at *
      have HC := Lib.hid (hc (Nat.le_trans sq.ext.len hb))
      have HD := Lib.hid hd
      have HS := Lib.hid sq.st
      have SF := Lib.hid hf
      have SG := Lib.hid hg
      clear hc hd hb e sp sq hf hg sf sg s0 s1
      go_enter Try.func64, Try.ntmps64
      go_wp2_with fail
      refine (valid_as _ true R SF.out).mono ?_
      rintro e w' ⟨rfl, rfl⟩
      go_wp2_with fail
      refine (valid_as _ true R SG.out).mono ?_
      rintro e w' ⟨rfl, rfl⟩
      go_wp2_with fail
      refine HC.out.mono ?_
      intro e w1 h1
      obtain ⟨rfl, L1, s1⟩ := (Sd.start R).step h1
      clear h1
      go_wp2_with fail
      refine (HD.out L1 w1 s1.rep).mono ?_
      intro e w2 h2
      obtain ⟨rfl, L2, s2⟩ := s1.step h2
      clear h2 s1
      go_wp2_with fail
      refine (show_ok c.2 s2.rep HS.out).mono ?_
      intro e w3 h3
      obtain ⟨rfl, L3, s3⟩ := s2.step h3
      clear h3 s2
      go_wp2_with fail
      go_ret
      exact s3.ret _
    · have e : M.xorM f g = (M, -1) := if_neg (fun x => hg x.2)
      rw [e]
      have SF := Lib.hid hf
      have SG : Hid (M.valid g = false) := Lib.hid (by simpa using hg)
      clear hf hg e hb
      go_enter Try.func64, Try.ntmps64
      go_wp2_with fail
      refine (valid_as _ true R SF.out).mono ?_
      rintro e w' ⟨rfl, rfl⟩
      go_wp2_with fail
      refine (valid_as _ false R SG.out).mono ?_
      rintro e w' ⟨rfl, rfl⟩
      go_wp2_with fail
      go_ret
      exact Ret.same R
  · have e : M.xorM f g = (M, -1) := if_neg (fun x => hf x.1)
    rw [e]
    have SF : Hid (M.valid f = false) := Lib.hid (by simpa using hf)
    clear hf e hb
    go_enter Try.func64, Try.ntmps64
    go_wp2_with fail
    refine (valid_as _ false R SF.out).mono ?_
    rintro e w' ⟨rfl, rfl⟩
    go_wp2_with fail
    go_ret
    exact Ret.same R

set_option maxHeartbeats 400000 in
theorem Var_ok {p : Nat} {M : Mgr} {L : Lay} (v : Int) {w : World} (R : Rep w p M L) (hb : (M.varM v).1.nodes.length ≤ big) :
    Calls Try.prog 47 #[ptr p, .int .i64 v] w (Ret p L w (M.varM v).1 (.int .i64 (M.varM v).2)) := by
  by_cases hv : 0 ≤ v ∧ v < M.n
  · have e : M.varM v = _ := if_pos hv
    obtain ⟨v, rfl⟩ := Int.eq_ofNat_of_zero_le hv.1
    rw [e] at hb ⊢
    simp only [Int.toNat_natCast] at hb ⊢
    have hvn : v < M.n := by omega
    have d0 := Mgr.lev_lt_const R.wf hvn (f := 0) (by omega)
    have d1 := Mgr.lev_lt_const R.wf hvn (f := 1) (by omega)
    have sp := Mgr.put_spec R.wf hvn (.inl (by omega)) (.inl (by omega)) d0 d1
    have hc := node_ok v 0 1 R hvn (.inl (by omega)) (.inl (by omega)) d0 d1 hb
    generalize M.put v 0 1 = b at *
    have HC := Lib.hid hc
    have HS := Lib.hid sp.st
    have HV := Lib.hid hv
    clear hc hb e sp hv d0 d1 hvn
    go_enter Try.func47, Try.ntmps47
    go_wp2_with fail
    refine (variable_as _ true R (by simpa using HV.out)).mono ?_
    rintro e w' ⟨rfl, rfl⟩
    go_wp2_with fail
    refine HC.out.mono ?_
    intro e w1 h1
    obtain ⟨rfl, L1, s1⟩ := (Sd.start R).step h1
    clear h1
    go_wp2_with fail
    refine (show_ok b.2 s1.rep HS.out).mono ?_
    intro e w2 h2
    obtain ⟨rfl, L2, s2⟩ := s1.step h2
    clear h2 s1
    go_wp2_with fail
    go_ret
    exact s2.ret _
  · have e : M.varM v = (M, -1) := if_neg hv
    rw [e]
    have HV : Hid (decide (0 ≤ v ∧ v < (M.n : Int)) = false) := Lib.hid (by simpa using hv)
    clear hv e hb
    go_enter Try.func47, Try.ntmps47
    go_wp2_with fail
    refine (variable_as _ false R HV.out).mono ?_
    rintro e w' ⟨rfl, rfl⟩
    go_wp2_with fail
    go_ret
    exact Ret.same R

end Go.Proofs.Ytngbodmooddjbaa
