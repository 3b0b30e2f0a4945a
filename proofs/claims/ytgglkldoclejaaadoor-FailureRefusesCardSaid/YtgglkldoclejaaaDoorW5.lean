/-
  Walks: 'ite' of the package bdd.
-/
import Derived.Test.YtgglkldoclejaaaDoorW4
namespace Go.Proofs.YtgglkldoclejaaaDoor
open Go.RowKit

theorem Rep.no {w w' : World} {p : Nat} {M : Mgr} {L : Lay} (R : Rep w p M L) (h : Kp No w w') : Rep w' p M L := by
  obtain ⟨F, raw, s⟩ := R.raw
  exact ⟨⟨F, raw.no h, s⟩, R.wf⟩
theorem Rep.kp {A : Nat → Prop} {w w' : World} {p : Nat} {M : Mgr} {L : Lay} (R : Rep w p M L) (h : Kp A w w') (hA : ∀ k, A k → ¬ L.at p k) : Rep w' p M L := by
  obtain ⟨F, raw, s⟩ := R.raw
  exact ⟨⟨F, raw.kp h hA, s⟩, R.wf⟩
theorem Rep.lt {w : World} {p : Nat} {M : Mgr} {L : Lay} (R : Rep w p M L) : ∀ k, L.at p k → k < w.heap.size := by
  obtain ⟨F, raw, s⟩ := R.raw
  exact raw.lt
theorem Rep.plt {w : World} {p : Nat} {M : Mgr} {L : Lay} (R : Rep w p M L) : p < w.heap.size := R.lt p (.inl rfl)

/-- A state on the way: what was known at w0, a block B of the call's own. -/
structure St (w0 : World) (p : Nat) (L0 : Lay) (B : Nat) (bx : Obj) (w : World) (M : Mgr) (L : Lay) : Prop where
  rep : Rep w p M L
  kp : Kp (L0.at p) w0 w
  fr : Fresh (L0.at p) (L.at p) w0
  box : w.heap[B]? = some bx
  bh : w0.heap.size ≤ B
  bn : ¬ L.at p B

theorem St.no {w0 : World} {p : Nat} {L0 : Lay} {B : Nat} {bx : Obj} {w w' : World} {M : Mgr} {L : Lay} (s : St w0 p L0 B bx w M L) (h : Kp No w w') : St w0 p L0 B bx w' M L :=
  ⟨s.rep.no h, s.kp.trans_no h, s.fr, by rw [h.block B (heap_lt s.box) (fun x => x)]; exact s.box, s.bh, s.bn⟩

theorem St.step {w0 : World} {p : Nat} {L0 : Lay} {B : Nat} {bx : Obj} {w w' : World} {M M' : Mgr} {L : Lay} {v : Value} {e : Ending} (s : St w0 p L0 B bx w M L) (h : Ret p L w M' v e w') :
    e = .returned v ∧ ∃ L', St w0 p L0 B bx w' M' L' := by
  obtain ⟨L', he, r, k, f⟩ := h
  refine ⟨he, L', r, s.kp.trans s.fr k, fun x hx => ?_, ?_, s.bh, fun hx => ?_⟩
  · rcases f x hx with h1 | h1
    · exact s.fr x h1
    · right; have := s.kp.size; omega
  · rw [k.block B (heap_lt s.box) s.bn]; exact s.box
  · rcases f B hx with h1 | h1
    · exact s.bn h1
    · have := heap_lt s.box; omega

theorem St.start {w : World} {p : Nat} {M : Mgr} {L : Lay} (R : Rep w p M L) (o : Obj) : St w p L w.heap.size o (w.alloc o) M L :=
  ⟨R.no (Kp.alloc o), (Kp.alloc o).of_no, fun _ h => .inl h, heap_alloc_new w o, Nat.le_refl _, fun h => by have := R.lt _ h; omega⟩

def iteF (M : Mgr) (f g h : Nat) : (Nat → Bool) → Bool := fun a => if M.sem f a then M.sem g a else M.sem h a

theorem iteF_reads {M : Mgr} (wf : M.WF) {f g h d : Nat} (hf : M.stored f) (hg : M.stored g) (hh : M.stored h) (df : d ≤ M.depth f) (dg : d ≤ M.depth g) (dh : d ≤ M.depth h) : M.Reads d (iteF M f g h) := by
  intro a b hab
  unfold iteF
  rw [Mgr.sem_agree wf _ f hf (Nat.le_refl _) a b (fun v hv h => hab v hv (by omega)), Mgr.sem_agree wf _ g hg (Nat.le_refl _) a b (fun v hv h => hab v hv (by omega)),
    Mgr.sem_agree wf _ h hh (Nat.le_refl _) a b (fun v hv h => hab v hv (by omega))]

/-- The depth of f as an integer: closed to the walk. -/
def dI (M : Mgr) (f : Nat) : Int := (M.depth f : Int)
theorem depth_I {p : Nat} {M : Mgr} {L : Lay} (f : Nat) {w : World} (R : Rep w p M L) (hf : M.stored f) :
    Calls Tryd.prog 84 #[ptr p, .int .i64 f] w fun e w' => e = .returned (.int .i64 (dI M f)) ∧ ∃ k, w' = w.drewN k := depth_ok f R hf

/-- The cofactors of a stored function at a level above or at its own. -/
theorem Mgr.sp_spec {M : Mgr} (wf : M.WF) {f : Nat} (hf : M.stored f) {i : Nat} (hi : i < M.n) (hd : i ≤ M.depth f) :
    M.stored (M.sp f (M.ord i)).1 ∧ M.stored (M.sp f (M.ord i)).2 ∧ i < M.depth (M.sp f (M.ord i)).1 ∧ i < M.depth (M.sp f (M.ord i)).2 ∧
    (∀ a, M.sem (M.sp f (M.ord i)).1 a = M.sem f (upd a (M.ord i) false)) ∧ (∀ a, M.sem (M.sp f (M.ord i)).2 a = M.sem f (upd a (M.ord i) true)) := by
  obtain ⟨o1, o2⟩ := wf.lo_ i hi
  unfold sp
  by_cases e : (M.nd f).1 = (M.ord i : Int)
  · rw [if_pos e]
    have h2 : 2 ≤ f := by
      rcases Nat.lt_or_ge f 2 with h | h
      · exfalso
        have : f = 0 ∨ f = 1 := by omega
        rcases this with rfl | rfl
        · rw [wf.nd0] at e; simp at e
        · rw [wf.nd1] at e; simp at e
      · exact h
    obtain ⟨_, _, sl, sh, _, dl, dh⟩ := node_of wf hf h2
    have hv : (M.nd f).1.toNat = M.ord i := by omega
    have hdd : M.depth f = i := by unfold depth; rw [if_neg (by omega), hv, o2]
    refine ⟨sl, sh, by omega, by omega, fun a => ?_, fun a => ?_⟩
    · rw [sem_lo wf hf h2, hv]
    · rw [sem_hi wf hf h2, hv]
  · rw [if_neg e]
    have hlt : i < M.depth f := by
      rcases Nat.lt_or_ge i (M.depth f) with h | h
      · exact h
      · exfalso
        have hde : M.depth f = i := by omega
        have h2 : 2 ≤ f := by
          rcases Nat.lt_or_ge f 2 with h | h
          · unfold depth at hde; rw [if_pos h] at hde; omega
          · exact h
        obtain ⟨v0, v1, _⟩ := node_of wf hf h2
        have hd2 : M.depth f = M.lev (M.nd f).1.toNat := by unfold depth; rw [if_neg (by omega)]
        have : (M.nd f).1.toNat = M.ord i := by rw [← hde, hd2, (wf.ol _ (by omega)).2]
        omega
    exact ⟨hf, hf, hlt, hlt, fun a => by rw [sem_upd wf hf _ _ _ (by omega)], fun a => by rw [sem_upd wf hf _ _ _ (by omega)]⟩

/-- How 'ite' goes on at the first level that one of its arguments reads. -/
structure Plan (M : Mgr) (f g h k i j : Nat) (A B : Mgr × Nat) : Prop where
  hi : i < M.n
  hj : j < k
  hij : M.n - j = i + 1
  jn : j ≤ M.n
  min : (if dI M h < (if dI M g < dI M f then dI M g else dI M f) then dI M h else (if dI M g < dI M f then dI M g else dI M f)) = (i : Int)
  pf : M.stored (M.sp f (M.ord i)).1 ∧ M.stored (M.sp f (M.ord i)).2 ∧ M.n - j ≤ M.depth (M.sp f (M.ord i)).1 ∧ M.n - j ≤ M.depth (M.sp f (M.ord i)).2
  pg : M.stored (M.sp g (M.ord i)).1 ∧ M.stored (M.sp g (M.ord i)).2 ∧ M.n - j ≤ M.depth (M.sp g (M.ord i)).1 ∧ M.n - j ≤ M.depth (M.sp g (M.ord i)).2
  ph : M.stored (M.sp h (M.ord i)).1 ∧ M.stored (M.sp h (M.ord i)).2 ∧ M.n - j ≤ M.depth (M.sp h (M.ord i)).1 ∧ M.n - j ≤ M.depth (M.sp h (M.ord i)).2
  eA : A = Mgr.build j M (iteF M (M.sp f (M.ord i)).1 (M.sp g (M.ord i)).1 (M.sp h (M.ord i)).1)
  sA : M.BuildSpec (M.n - j) (iteF M (M.sp f (M.ord i)).1 (M.sp g (M.ord i)).1 (M.sp h (M.ord i)).1) A.1 A.2
  eB : B = Mgr.build j A.1 (iteF A.1 (M.sp f (M.ord i)).2 (M.sp g (M.ord i)).2 (M.sp h (M.ord i)).2)
  sB : A.1.BuildSpec (A.1.n - j) (iteF A.1 (M.sp f (M.ord i)).2 (M.sp g (M.ord i)).2 (M.sp h (M.ord i)).2) B.1 B.2
  v : M.ord i < B.1.n
  dA : B.1.lev (M.ord i) < B.1.depth A.2
  dB : B.1.lev (M.ord i) < B.1.depth B.2
  fin : Mgr.build k M (iteF M f g h) = B.1.put (M.ord i) A.2 B.2
  lA : A.1.nodes.length ≤ (B.1.put (M.ord i) A.2 B.2).1.nodes.length
  lB : B.1.nodes.length ≤ (B.1.put (M.ord i) A.2 B.2).1.nodes.length
  sem : ∀ a, (B.1.put (M.ord i) A.2 B.2).1.sem (B.1.put (M.ord i) A.2 B.2).2 a = iteF M f g h a
  st : (B.1.put (M.ord i) A.2 B.2).1.stored (B.1.put (M.ord i) A.2 B.2).2
  ext : M.Ext (B.1.put (M.ord i) A.2 B.2).1

theorem plan {M : Mgr} (wf : M.WF) {f g h k : Nat} (sf : M.stored f) (sg : M.stored g) (sh : M.stored h) (h2 : 2 ≤ f) (hk : k ≤ M.n) (df : M.n - k ≤ M.depth f) (dg : M.n - k ≤ M.depth g) (dh : M.n - k ≤ M.depth h) :
    ∃ i j A B, Plan M f g h k i j A B := by
  have hdf := M.depth_lt wf sf h2
  obtain ⟨i, hi⟩ : ∃ i, i = Nat.min (M.depth h) (Nat.min (M.depth g) (M.depth f)) := ⟨_, rfl⟩
  have hmn : ∀ x y : Nat, Nat.min x y = if x ≤ y then x else y := fun x y => by show min x y = _; rw [Nat.min_def]
  have i1 : i ≤ M.depth f ∧ i ≤ M.depth g ∧ i ≤ M.depth h ∧ M.n - k ≤ i ∧ i < M.n := by
    rw [hmn, hmn] at hi
    split at hi <;> (try split at hi) <;> omega
  obtain ⟨if_, ig, ih, ik, il⟩ := i1
  have hmin : (if dI M h < (if dI M g < dI M f then dI M g else dI M f) then dI M h else (if dI M g < dI M f then dI M g else dI M f)) = (i : Int) := by
    rw [hmn, hmn] at hi
    unfold dI
    split at hi <;> (try split at hi) <;> (repeat' split) <;> omega
  obtain ⟨a1, a2, a3, a4, a5, a6⟩ := M.sp_spec wf sf il if_
  obtain ⟨b1, b2, b3, b4, b5, b6⟩ := M.sp_spec wf sg il ig
  obtain ⟨c1, c2, c3, c4, c5, c6⟩ := M.sp_spec wf sh il ih
  obtain ⟨j, hj⟩ : ∃ j, j + 1 + i = M.n := ⟨M.n - (i + 1), by omega⟩
  have hnj : M.n - j = i + 1 := by omega
  have hni : M.n - (j + 1) = i := by omega
  have rA : M.Reads (M.n - j) (iteF M (M.sp f (M.ord i)).1 (M.sp g (M.ord i)).1 (M.sp h (M.ord i)).1) := iteF_reads wf a1 b1 c1 (by omega) (by omega) (by omega)
  have sA := Mgr.build_spec j M wf (by omega) _ rA
  generalize hA : Mgr.build j M (iteF M (M.sp f (M.ord i)).1 (M.sp g (M.ord i)).1 (M.sp h (M.ord i)).1) = A at sA
  have nA := sA.ext.n
  have rB : A.1.Reads (A.1.n - j) (iteF A.1 (M.sp f (M.ord i)).2 (M.sp g (M.ord i)).2 (M.sp h (M.ord i)).2) :=
    iteF_reads sA.wf (sA.ext.stored a2) (sA.ext.stored b2) (sA.ext.stored c2) (by rw [sA.ext.depth a2]; omega) (by rw [sA.ext.depth b2]; omega) (by rw [sA.ext.depth c2]; omega)
  have sB := Mgr.build_spec j A.1 sA.wf (by omega) _ rB
  generalize hB : Mgr.build j A.1 (iteF A.1 (M.sp f (M.ord i)).2 (M.sp g (M.ord i)).2 (M.sp h (M.ord i)).2) = B at sB
  have nB := sB.ext.n
  have lv : B.1.lev (M.ord i) = i := by rw [sB.ext.lev, sA.ext.lev]; exact (wf.lo_ i il).2
  have q1 := sA.dep
  have q2 := sB.dep
  have dA : B.1.lev (M.ord i) < B.1.depth A.2 := by rw [lv, sB.ext.depth sA.st]; omega
  have dB : B.1.lev (M.ord i) < B.1.depth B.2 := by rw [lv]; omega
  have hv : M.ord i < B.1.n := by have := (wf.lo_ i il).1; omega
  have ps := Mgr.put_spec sB.wf hv (sB.ext.stored sA.st) sB.st dA dB
  have e0 : iteF M (M.sp f (M.ord i)).1 (M.sp g (M.ord i)).1 (M.sp h (M.ord i)).1 = fun a => iteF M f g h (Mgr.upd a (M.ord i) false) := by
    funext a; unfold iteF; rw [a5, b5, c5]
  have e1 : iteF A.1 (M.sp f (M.ord i)).2 (M.sp g (M.ord i)).2 (M.sp h (M.ord i)).2 = fun a => iteF M f g h (Mgr.upd a (M.ord i) true) := by
    funext a; unfold iteF; rw [sA.ext.sem wf a2, sA.ext.sem wf b2, sA.ext.sem wf c2, a6, b6, c6]
  have fin : Mgr.build k M (iteF M f g h) = B.1.put (M.ord i) A.2 B.2 := by
    obtain ⟨d, hd⟩ : ∃ d, k = (j + 1) + d := ⟨k - (j + 1), by omega⟩
    rw [hd, Mgr.build_skips wf d (by omega) (iteF_reads wf sf sg sh (by omega) (by omega) (by omega))]
    unfold Mgr.build
    simp only [hni]
    rw [← e0, hA, ← e1, hB]
  have sF := Mgr.build_spec k M wf hk _ (iteF_reads wf sf sg sh df dg dh)
  rw [fin] at sF
  exact ⟨i, j, A, B, ⟨il, by omega, hnj, by omega, hmin, ⟨a1, a2, by omega, by omega⟩, ⟨b1, b2, by omega, by omega⟩, ⟨c1, c2, by omega, by omega⟩, hA.symm, sA, hB.symm, sB, hv, dA, dB, fin,
    Nat.le_trans sB.ext.len ps.ext.len, ps.ext.len, sF.sem, sF.st, sF.ext⟩⟩

end Go.Proofs.YtgglkldoclejaaaDoor
