/-
  Walks: the quantifier's 'split' and 'product'.
-/
import Derived.Test.YtngbodmooddjbaaQn
import Derived.Deep.RegionHeld3
namespace Go.Proofs.Ytngbodmooddjbaa
open Go.RowKit

abbrev Pr := Int × Int
def pairV (x : Pr) : Value := .agg #[.int .i64 x.1, .int .i64 x.2]
theorem sameBits_pair (x : Pr) : Instr.sameBits 10000 (pairV x) (pairV x) = true := by
  rw [show (10000 : Nat) = 9999 + 1 from rfl]
  simp [pairV, Instr.sameBits]
theorem pair_eq (x y : Pr) : (x.1 == y.1 && x.2 == y.2) = decide (x = y) := by
  obtain ⟨a, b⟩ := x
  obtain ⟨a', b'⟩ := y
  rw [Bool.eq_iff_iff]
  simp
theorem keyPair : KeyOk Try.prog 161 pairV :=
  keyOk_struct (fs := Try.prog.fieldsOf 161) (by kernel_rfl) (fun k => ⟨_, rfl⟩) (fun w em k => by unfold pairV; kernel_rfl)
    (fun w a b => by
      rw [← pair_eq]
      unfold pairV
      by_cases h1 : a.1 = b.1 <;> by_cases h2 : a.2 = b.2 <;> simp [Op.equal, Op.maxDepth, h1, h2] <;> go_simp)
    sameBits_pair

/-- What the memo of 'product' holds is right. -/
def PSound (l : List Nat) (M : Mgr) (K : Pr → Option Nat) : Prop := ∀ x r, K x = some r → ∃ f g : Nat, x = ((f : Int), (g : Int)) ∧ M.stored f ∧ M.stored g ∧ M.stored r ∧ ∀ a, M.sem r a = exQ l (andF M f g) a
def PMemo (l : List Nat) (bs : Nat) (M : Mgr) (w : World) : Prop := ∃ K, MapAs w bs pairV natV K ∧ PSound l M K
theorem PMemo.iok (l : List Nat) (bs : Nat) : IOk bs (PMemo l bs) := fun M M' w w' A h e k hb ⟨K, m, s⟩ => ⟨K, m.kp k hb, fun x r hr => by
  obtain ⟨f, g, hx, sf, sg, sr, hs⟩ := s x r hr
  exact ⟨f, g, hx, e.stored sf, e.stored sg, e.stored sr, fun a => by rw [e.sem h sr, andF_ext h e sf sg]; exact hs a⟩⟩

/-- Where a quantifier lies. -/
structure QL where
  bq : Nat
  bs : Nat
  gi : Nat
  gl : Nat
  last : Int
def QL.X (Q : QL) (p n : Nat) (l : List Nat) (lev : Nat → Nat) : List (Nat × Obj) :=
  [(Q.bq, .cells #[ptr p, .slice (some ⟨Q.gi, 0, none⟩) n n, .slice (some ⟨Q.gl, 0, none⟩) n n, .int .i64 Q.last, .map (some Q.bs)] 157 (0, 0)),
   (Q.gi, .cells (InRow n l).toArray 4 (0, 0)), (Q.gl, .cells ((List.range n).map fun v => natV (lev v)).toArray 3 (0, 0))]

/-- The cells of a quantifier. -/
structure QC (Q : QL) (p n : Nat) (l : List Nat) (lev : Nat → Nat) (w : World) : Prop where
  q0 : w.cell? ⟨Q.bq, 0, none⟩ = some (ptr p)
  q1 : w.cell? ⟨Q.bq, 1, none⟩ = some (.slice (some ⟨Q.gi, 0, none⟩) n n)
  q2 : w.cell? ⟨Q.bq, 2, none⟩ = some (.slice (some ⟨Q.gl, 0, none⟩) n n)
  q3 : w.cell? ⟨Q.bq, 3, none⟩ = some (.int .i64 Q.last)
  q4 : w.cell? ⟨Q.bq, 4, none⟩ = some (.map (some Q.bs))
  ql : Q.bq < w.heap.size
  il : Q.gi < w.heap.size
  ll : Q.gl < w.heap.size
  ic : ∀ v, v < n → w.cell? ⟨Q.gi, v, none⟩ = some (.bool (decide (v ∈ l)))
  lc : ∀ v, v < n → w.cell? ⟨Q.gl, v, none⟩ = some (.int .i64 (lev v : Int))
theorem Sk.qc {Q : QL} {p n : Nat} {l : List Nat} {lev : Nat → Nat} {X : List (Nat × Obj)} (hX : ∀ x, x ∈ Q.X p n l lev → x ∈ X) {w0 w : World} {L0 L : Lay} {I : Mgr → World → Prop} {M : Mgr} (s : Sk w0 p L0 Q.bs X I w M L) : QC Q p n l lev w := by
  have h0 := hX _ (.head _)
  have h1 := hX _ (.tail _ (.head _))
  have h2 := hX _ (.tail _ (.tail _ (.head _)))
  refine ⟨(s.cell h0 rfl).1, (s.cell h0 rfl).1, (s.cell h0 rfl).1, (s.cell h0 rfl).1, (s.cell h0 rfl).1, heap_lt (s.keep _ _ h0).1, heap_lt (s.keep _ _ h1).1, heap_lt (s.keep _ _ h2).1, fun v hv => (s.cell h1 ?_).1, fun v hv => (s.cell h2 ?_).1⟩
  · simp [InRow, hv]
  · simp [natV, hv]

theorem sp_eq {M : Mgr} {f v : Nat} : M.sp f v = if (M.nd f).1 = (v : Int) then (M.nd f).2 else (f, f) := rfl

set_option maxHeartbeats 400000 in
theorem qsplit_ok {p : Nat} {M : Mgr} {L : Lay} (bq f v : Nat) {w : World} (R : Rep w p M L) (hf : M.stored f) (hq : w.cell? ⟨bq, 0, none⟩ = some (ptr p)) :
    Calls Try.prog 104 #[ptr bq, .int .i64 (f : Int), .int .i64 (v : Int)] w fun e w' => e = .returned (.tuple #[.int .i64 ((M.sp f v).1 : Int), .int .i64 ((M.sp f v).2 : Int)]) ∧ Kp No w w' := by
  have ND := Lib.hid (Node_ok f R hf)
  have hql := World.block_lt_of_cell? _ _ hq
  rw [sp_eq]
  clear R hf
  generalize M.nd f = x at *
  by_cases hv : x.1 = (v : Int)
  · rw [if_pos hv]
    rw [hv] at ND
    clear hv
    go_enter Try.func104, Try.ntmps104
    go_wp2_with fail
    refine ND.out.mono ?_
    rintro e w1 ⟨rfl, k1⟩
    have K1 := Lib.hid k1
    clear k1 ND
    go_wp2_with fail
    go_ret2
    exact ⟨rfl, K1.out⟩
  · rw [if_neg hv]
    have hv' : (x.1 == (v : Int)) = false := by simpa using hv
    clear hv
    go_enter Try.func104, Try.ntmps104
    go_wp2_with fail
    refine ND.out.mono ?_
    rintro e w1 ⟨rfl, k1⟩
    have K1 := Lib.hid k1
    clear k1 ND
    go_wp2_with fail
    go_ret2
    exact ⟨rfl, K1.out⟩

theorem Apply_one {p : Nat} {M : Mgr} {L : Lay} (f h : Nat) {w : World} (R : Rep w p M L) (sf : M.stored f) (sh : M.stored h) (hb : (Mgr.build M.n M (iteF M f 1 h)).1.nodes.length ≤ big) :
    Calls Try.prog 74 #[ptr p, .int .i64 (f : Int), .int .i64 1, .int .i64 (h : Int)] w (Ret p L w (Mgr.build M.n M (iteF M f 1 h)).1 (.int .i64 (Mgr.build M.n M (iteF M f 1 h)).2)) :=
  Apply_ok f 1 h R sf (.inl (by omega)) sh hb

/-- What 'product' leaves. -/
def QPost (p : Nat) (L : Lay) (bs : Nat) (l : List Nat) (X : List (Nat × Obj)) (w : World) (M : Mgr) (F : Bfn) (e : Ending) (w' : World) : Prop :=
  ∃ (M' : Mgr) (r : Nat) (L' : Lay), e = .returned (.int .i64 (r : Int)) ∧ Sk w p L bs X (PMemo l bs) w' M' L' ∧ Mgr.Pro M l F M' r

/-- The two functions behind the tests at the head of 'product'. -/
structure Nm (M : Mgr) (f g n k : Nat) (f2 g2 : Nat) : Prop where
  sf : M.stored f2
  sg : M.stored g2
  one : 1 ≤ f2
  le : f2 ≤ g2
  eq : andF M f2 g2 = andF M f g
  df : n < k + M.depth f2
  dg : n < k + M.depth g2

theorem nm {M : Mgr} {f g n k : Nat} (hn : M.n = n) (hk : 0 < k) (hf : M.stored f) (hg : M.stored g) (f0 : f ≠ 0) (g0 : g ≠ 0) (df : n < k + M.depth f) (dg : n < k + M.depth g) :
    ∃ f1 f2 g2, f1 = (if f = g then 1 else f) ∧ f2 = (if g < f1 then g else f1) ∧ g2 = (if g < f1 then f1 else g) ∧ Nm M f g n k f2 g2 := by
  refine ⟨_, _, _, rfl, rfl, rfl, ?_⟩
  have d1 : n < k + M.depth 1 := by rw [M.depth_const (by omega), hn]; omega
  have s1 : M.stored 1 := .inl (by omega)
  by_cases e : f = g
  · subst e
    rw [if_pos rfl]
    have h1 : ¬ f < 1 := by omega
    rw [if_neg h1, if_neg h1]
    exact ⟨s1, hg, by omega, by omega, by funext a; unfold andF; rw [M.sem_one]; cases M.sem f a <;> rfl, d1, dg⟩
  · rw [if_neg e]
    by_cases h : g < f
    · rw [if_pos h, if_pos h]
      exact ⟨hg, hf, by omega, by omega, by funext a; unfold andF; rw [Bool.and_comm], dg, df⟩
    · rw [if_neg h, if_neg h]
      exact ⟨hf, hg, by omega, by omega, rfl, df, dg⟩

/-- The first variable of the two. -/
structure Tp (M : Mgr) (f2 g2 v : Nat) : Prop where
  vn : v < M.n
  lf : M.lev v ≤ M.depth f2
  lg : M.lev v ≤ M.depth g2
  or : M.lev v = M.depth f2 ∨ M.lev v = M.depth g2
theorem tp_g {M : Mgr} (h : M.WF) {f2 g2 : Nat} (sg : M.stored g2) (h2 : 2 ≤ g2) (hd : M.depth g2 ≤ M.depth f2) : Tp M f2 g2 (M.nd g2).1.toNat := by
  obtain ⟨v0, v1, _⟩ := Mgr.node_of h sg h2
  have hdd : M.depth g2 = M.lev (M.nd g2).1.toNat := by unfold Mgr.depth; rw [if_neg (by omega)]
  exact ⟨by omega, by omega, by omega, .inr hdd.symm⟩
theorem tp_f {M : Mgr} (h : M.WF) {f2 g2 : Nat} (sf : M.stored f2) (h2 : 2 ≤ f2) (hd : M.depth f2 ≤ M.depth g2) : Tp M f2 g2 (M.nd f2).1.toNat := by
  obtain ⟨v0, v1, _⟩ := Mgr.node_of h sf h2
  have hdd : M.depth f2 = M.lev (M.nd f2).1.toNat := by unfold Mgr.depth; rw [if_neg (by omega)]
  exact ⟨by omega, by omega, by omega, .inl hdd.symm⟩

/-- What the recursion is told. -/
structure Rc (M : Mgr) (f2 g2 v n k j : Nat) : Prop where
  jk : j < k
  sf0 : M.stored (M.sp f2 v).1
  sf1 : M.stored (M.sp f2 v).2
  sg0 : M.stored (M.sp g2 v).1
  sg1 : M.stored (M.sp g2 v).2
  df0 : n < j + M.depth (M.sp f2 v).1
  df1 : n < j + M.depth (M.sp f2 v).2
  dg0 : n < j + M.depth (M.sp g2 v).1
  dg1 : n < j + M.depth (M.sp g2 v).2
  e0 : andF M (M.sp f2 v).1 (M.sp g2 v).1 = fun a => andF M f2 g2 (Mgr.upd a v false)
  e1 : andF M (M.sp f2 v).2 (M.sp g2 v).2 = fun a => andF M f2 g2 (Mgr.upd a v true)
theorem rc {M : Mgr} (h : M.WF) {f g f2 g2 v n k : Nat} (hn : M.n = n) (m : Nm M f g n k f2 g2) (t : Tp M f2 g2 v) : ∃ j, Rc M f2 g2 v n k j := by
  have hv := h.ol v t.vn
  obtain ⟨a1, a2, a3, a4, a5, a6⟩ := Mgr.sp_spec h m.sf hv.1 t.lf
  obtain ⟨b1, b2, b3, b4, b5, b6⟩ := Mgr.sp_spec h m.sg hv.1 t.lg
  rw [hv.2] at a1 a2 a3 a4 a5 a6 b1 b2 b3 b4 b5 b6
  have hk : 0 < k := by have := m.df; have := M.depth_le h m.sf; omega
  have hlv : n < k + M.lev v := by
    rcases t.or with e | e
    · rw [e]; exact m.df
    · rw [e]; exact m.dg
  exact ⟨k - 1, by omega, a1, a2, b1, b2, by omega, by omega, by omega, by omega, by funext a; unfold andF; rw [a5, b5], by funext a; unfold andF; rw [a6, b6]⟩

set_option maxRecDepth 100000 in
set_option maxHeartbeats 4000000 in
theorem product_step {k p : Nat} {Q : QL} {l : List Nat} {n : Nat} {lev : Nat → Nat}
    (ih : ∀ (M : Mgr) (L : Lay) (X : List (Nat × Obj)) (f g : Nat) (w : World) (j : Nat), j < k → (∀ x, x ∈ Q.X p n l lev → x ∈ X) → Sk w p L Q.bs X (PMemo l Q.bs) w M L → M.n = n → (∀ v, M.lev v = lev v) → M.stored f → M.stored g → n < j + M.depth f → n < j + M.depth g →
      (∀ M', Mgr.Adds M M' (M.ProF l (andF M f g)) → M'.nodes.length ≤ big) →
      Calls Try.prog 55 #[ptr Q.bq, .int .i64 (f : Int), .int .i64 (g : Int)] w (QPost p L Q.bs l X w M (andF M f g)))
    (hQl : ∀ v, v ∈ l → v < n → (lev v : Int) ≤ Q.last) (hn256 : n ≤ 256)
    {M : Mgr} {L : Lay} {X : List (Nat × Obj)} (f g : Nat) {w : World} (hX : ∀ x, x ∈ Q.X p n l lev → x ∈ X) (s0 : Sk w p L Q.bs X (PMemo l Q.bs) w M L) (hn : M.n = n) (hlev : ∀ v, M.lev v = lev v) (hf : M.stored f) (hg : M.stored g)
    (df : n < k + M.depth f) (dg : n < k + M.depth g) (hb : ∀ M', Mgr.Adds M M' (M.ProF l (andF M f g)) → M'.nodes.length ≤ big) :
    Calls Try.prog 55 #[ptr Q.bq, .int .i64 (f : Int), .int .i64 (g : Int)] w (QPost p L Q.bs l X w M (andF M f g)) := by
  have IH := Lib.hid ih
  clear ih
  have OK := Lib.hid (PMemo.iok l Q.bs)
  have WF := Lib.hid s0.rep.wf
  have THERE : Hid (∀ (w' : World) (r : Nat), Kp No w w' → M.stored r → (∀ a, M.sem r a = exQ l (andF M f g) a) → QPost p L Q.bs l X w M (andF M f g) (.returned (.int .i64 (r : Int))) w') :=
    Lib.hid (fun w' r kp hr e => ⟨M, r, L, rfl, s0.no OK.out kp, Mgr.Pro.there WF.out hr e⟩)
  by_cases f0 : f = 0
  · have b0 : ((f : Int) == 0) = true := by simp [f0]
    have RET := Lib.hid (THERE.out w 0 (Kp.refl _ _) (.inl (by omega)) (fun a => by
      have e : andF M f g = fun _ => false := by funext b; unfold andF; rw [f0, M.sem_zero]; rfl
      rw [e, exQ_const, M.sem_zero]))
    clear THERE s0 hX f0 hf hg df dg hb hlev hn hQl hn256
    go_enter Try.func55, Try.ntmps55
    go_wp2
    go_ret
    exact RET.out
  by_cases g0 : g = 0
  · have b0 : ((f : Int) == 0) = false := by simp; omega
    have b1 : ((g : Int) == 0) = true := by simp [g0]
    have RET := Lib.hid (THERE.out w 0 (Kp.refl _ _) (.inl (by omega)) (fun a => by
      have e : andF M f g = fun _ => false := by funext b; unfold andF; rw [g0, M.sem_zero]; cases M.sem f b <;> rfl
      rw [e, exQ_const, M.sem_zero]))
    clear THERE s0 hX f0 hf hg df dg hb hlev hn g0 hQl hn256
    go_enter Try.func55, Try.ntmps55
    go_wp2
    go_ret
    exact RET.out
  have bf0 : ((f : Int) == 0) = false := by simp; omega
  have bg0 : ((g : Int) == 0) = false := by simp; omega
  have hk : 0 < k := by have := M.depth_le WF.out hf; omega
  obtain ⟨f1, f2, g2, hf1, hf2, hg2, m⟩ := nm hn hk hf hg f0 g0 df dg
  have HF1 := Lib.hid hf1
  have HF2 := Lib.hid hf2
  have HG2 := Lib.hid hg2
  have NM := Lib.hid m
  have SK := Lib.hid s0
  have HX := Lib.hid hX
  have HN := Lib.hid hn
  have HL := Lib.hid hlev
  have HB := Lib.hid hb
  have QLA := Lib.hid hQl
  have f0' : 1 ≤ f := by omega
  clear hf1 hf2 hg2 m s0 hX hn hlev hb hf hg df dg f0 g0 hQl hk
  go_enter Try.func55, Try.ntmps55
  go_upto_if 29 with (fail)
  go_cut [1] (fun s1 x => s1 = .int .i64 (f1 : Int) ∧ x = w)
  case first =>
    by_cases e : f = g
    · have b : ((f : Int) == (g : Int)) = true := by simp [e]
      have E1 : Hid (f1 = 1) := Lib.hid (by rw [HF1.out, if_pos e])
      clear e
      go_wp2
      go_meet
      case rel => exact ⟨by rw [E1.out]; rfl, rfl⟩
    · have b : ((f : Int) == (g : Int)) = false := by simp; omega
      have E1 : Hid (f1 = f) := Lib.hid (by rw [HF1.out, if_neg e])
      clear e
      go_wp2
      go_meet
      case rel => exact ⟨by rw [E1.out], rfl⟩
  case rest =>
  obtain ⟨hs, hw⟩ := hcut
  replace hw := hw.symm
  subst hs hw
  clear bf0 bg0
  go_upto_if 32 with (fail)
  go_cut [1, 2] (fun s1 s2 x => s1 = .int .i64 (f2 : Int) ∧ s2 = .int .i64 (g2 : Int) ∧ x = w)
  case first =>
    by_cases e : g < f1
    · have b : (g : Int) < (f1 : Int) := by omega
      have E1 : Hid (f2 = g ∧ g2 = f1) := Lib.hid ⟨by rw [HF2.out, if_pos e], by rw [HG2.out, if_pos e]⟩
      clear e
      go_wp2
      go_meet
      case rel => exact ⟨by rw [E1.out.1], by rw [E1.out.2], rfl⟩
    · have b : ¬ (g : Int) < (f1 : Int) := by omega
      have E1 : Hid (f2 = f1 ∧ g2 = g) := Lib.hid ⟨by rw [HF2.out, if_neg e], by rw [HG2.out, if_neg e]⟩
      clear e
      go_wp2
      go_meet
      case rel => exact ⟨by rw [E1.out.1], by rw [E1.out.2], rfl⟩
  case rest =>
  obtain ⟨hs1, hs2, hw⟩ := hcut
  replace hw := hw.symm
  subst hs1 hs2 hw
  clear HF1 HF2 HG2
  have C0 := SK.out.qc HX.out
  have q0 := C0.q0
  have ql := C0.ql
  have NG := Lib.hid (Node_ok g2 SK.out.rep NM.out.sg)
  clear C0
  by_cases hg1 : g2 = 1
  · have hf1 : f2 = 1 := by have := NM.out.one; have := NM.out.le; omega
    have RET := Lib.hid (fun (w' : World) (kp : Kp No w w') => THERE.out w' 1 kp (.inl (by omega)) (fun a => by
      rw [← NM.out.eq]
      have e : andF M f2 g2 = fun _ => true := by funext b; unfold andF; rw [hf1, hg1, M.sem_one]; rfl
      rw [e, exQ_const, M.sem_one]))
    have hnd : (M.nd g2).1 = -1 := by rw [hg1, WF.out.nd1]
    rw [hnd] at NG
    clear THERE hnd hg1 hf1
    go_wp2_with fail
    refine NG.out.mono ?_
    rintro e w1 ⟨rfl, k1⟩
    have K1 := Lib.hid k1
    clear k1 NG
    go_wp2
    go_ret
    exact RET.out _ K1.out
  have h2g : 2 ≤ g2 := by have := NM.out.one; have := NM.out.le; omega
  obtain ⟨vg0, vgn, _⟩ := Mgr.node_of WF.out NM.out.sg h2g
  obtain ⟨vg, hvg⟩ := Int.eq_ofNat_of_zero_le vg0
  have hvgn : vg < n := by have := HN.out; omega
  rw [hvg] at NG
  have dgl : M.depth g2 = lev vg := by
    have : M.depth g2 = M.lev (M.nd g2).1.toNat := by unfold Mgr.depth; rw [if_neg (by omega)]
    rw [this, HL.out, show (M.nd g2).1.toNat = vg by omega]
  have TG : Hid (M.depth g2 ≤ M.depth f2 → Tp M f2 g2 vg) := Lib.hid (fun h => by
    have := tp_g WF.out NM.out.sg h2g h
    rwa [show (M.nd g2).1.toNat = vg by omega] at this)
  have HVG := Lib.hid hvg
  have DG := Lib.hid dgl
  clear vg0 vgn hvg dgl
  go_wp2_with fail
  refine NG.out.mono ?_
  rintro e w1 ⟨rfl, k1⟩
  have S1 := Lib.hid (SK.out.no OK.out k1)
  have K1 := Lib.hid k1
  clear k1 NG q0 ql SK
  have C1 := S1.out.qc HX.out
  have q0 := C1.q0
  have ql := C1.ql
  have NF := Lib.hid (Node_ok f2 S1.out.rep NM.out.sf)
  obtain ⟨xf, hxf⟩ : ∃ x, (M.nd f2).1 = x := ⟨_, rfl⟩
  rw [hxf] at NF
  have HXF := Lib.hid hxf
  obtain ⟨b, hb⟩ : ∃ b, decide (2 ≤ f2 ∧ M.depth f2 < M.depth g2) = b := ⟨_, rfl⟩
  have HBB := Lib.hid hb
  clear C1 hxf hb
  go_wp2_with fail
  refine NF.out.mono ?_
  rintro e w2 ⟨rfl, k2⟩
  have S2 := Lib.hid (S1.out.no OK.out k2)
  have K2 := Lib.hid (K1.out.trans_no k2)
  clear k2 NF q0 ql S1 K1
  have C2 := S2.out.qc HX.out
  have q2 := C2.q2
  have ql := C2.ql
  have ll := C2.ll
  have lcg := C2.lc vg hvgn
  have LC := Lib.hid C2.lc
  have hni : (n : Int) ≤ 256 := by omega
  have hvgi : (vg : Int) < (n : Int) := by omega
  clear C2
  have VF : Hid (2 ≤ f2 → ∃ vf : Nat, xf = (vf : Int) ∧ vf < n ∧ M.depth f2 = lev vf ∧ (M.depth f2 ≤ M.depth g2 → Tp M f2 g2 vf)) := Lib.hid (fun h2f => by
    obtain ⟨vf0, vfn, _⟩ := Mgr.node_of WF.out NM.out.sf h2f
    have e := HXF.out
    have hn := HN.out
    obtain ⟨vf, hvf⟩ := Int.eq_ofNat_of_zero_le vf0
    have e2 : (M.nd f2).1.toNat = vf := by omega
    refine ⟨vf, by omega, by omega, ?_, fun h => ?_⟩
    · have : M.depth f2 = M.lev (M.nd f2).1.toNat := by unfold Mgr.depth; rw [if_neg (by omega)]
      rw [this, HL.out, e2]
    · have := tp_f WF.out NM.out.sf h2f h
      rwa [e2] at this)
  go_upto_region 11 with fail
  go_cut [75] (fun s75 x => s75 = .bool b ∧ ∃ d, x = w2.drewN d)
  case first =>
    by_cases hf1 : f2 = 1
    · have hnd : (M.nd f2).1 = -1 := by rw [hf1, WF.out.nd1]
      obtain rfl : xf = -1 := HXF.out.symm.trans hnd
      obtain rfl : b = false := by rw [← HBB.out]; exact decide_eq_false (by omega)
      clear hnd hf1 LC DG TG VF HVG
      go_quiet (fail)
      go_wp2
      go_meet
      case rel => exact ⟨rfl, _, rfl⟩
    · obtain ⟨vf, rfl, hvfn, dfl, _⟩ := VF.out (by have := NM.out.one; omega)
      have lcf := LC.out vf hvfn
      have hvfi : (vf : Int) < (n : Int) := by omega
      have hvf0 : (0 : Int) ≤ (vf : Int) := by omega
      have hbv : b = decide ((lev vf : Int) < (lev vg : Int)) := by
        rw [← HBB.out, dfl, DG.out]
        have := NM.out.one
        rw [Bool.eq_iff_iff, decide_eq_true_eq, decide_eq_true_eq]; omega
      have HBV := Lib.hid hbv
      clear hf1 LC DG TG dfl VF HVG hbv
      generalize (lev vf : Int) = lf at *
      generalize (lev vg : Int) = lg at *
      go_quiet (fail)
      go_wp2
      go_meet
      case rel => exact ⟨by rw [HBV.out], _, rfl⟩
  case rest =>
  obtain ⟨hs, d, hw⟩ := hcut
  subst hs
  have S3 : Hid (Sk w p L Q.bs X (PMemo l Q.bs) wc M L) := Lib.hid (by rw [hw]; exact S2.out.no OK.out (Kp.drewN d))
  have K3 : Hid (Kp No w wc) := Lib.hid (by rw [hw]; exact K2.out.trans_no (Kp.drewN d))
  clear hw S2 K2 q2 ql ll lcg LC hvgi hvgn
  go_upto_if 75 with (fail)
  go_cut [7] (fun s7 x => ∃ v : Nat, s7 = .int .i64 (v : Int) ∧ Tp M f2 g2 v ∧ x = wc)
  case first =>
    cases hb : b
    · have TV := Lib.hid (TG.out (by
        have h := of_decide_eq_false (HBB.out.trans hb)
        rcases Nat.lt_or_ge f2 2 with h2 | h2
        · rw [M.depth_const h2]; exact M.depth_le WF.out NM.out.sg
        · omega))
      have hb2 : b = false := hb
      clear VF TG HBB HVG HXF DG
      subst hb2
      go_wp2
      go_meet
      case rel => exact ⟨vg, rfl, TV.out, rfl⟩
    · have h := of_decide_eq_true (HBB.out.trans hb)
      obtain ⟨vf, rfl, _, _, tvf⟩ := VF.out h.1
      have TV := Lib.hid (tvf (by omega))
      have hb2 : b = true := hb
      clear VF TG HBB HVG HXF DG tvf h
      subst hb2
      go_wp2
      go_meet
      case rel => exact ⟨vf, rfl, TV.out, rfl⟩
  case rest =>
  obtain ⟨v, hs, tv, hw⟩ := hcut
  replace hw := hw.symm
  subst hs hw
  have TV := Lib.hid tv
  clear TG HVG DG tv VF HXF HBB
  have FIN : Hid (∀ (M' : Mgr) (r : Nat) (L' : Lay) (x : World), Sk w p L Q.bs X (PMemo l Q.bs) x M' L' → Mgr.Pro M l (andF M f2 g2) M' r → QPost p L Q.bs l X w M (andF M f g) (.returned (.int .i64 (r : Int))) x) := Lib.hid (fun M' r L' x s pr => ⟨M', r, L', rfl, s, by rw [← NM.out.eq]; exact pr⟩)
  have HB2 : Hid (∀ M', Mgr.Adds M M' (M.ProF l (andF M f2 g2)) → M'.nodes.length ≤ big) := Lib.hid (fun M' ad => HB.out M' (by rw [← NM.out.eq]; exact ad))
  have hvn : v < n := by rw [← HN.out]; exact TV.out.vn
  have RD : Hid (M.Reads (M.lev v) (andF M f2 g2)) := Lib.hid (andF_reads WF.out NM.out.sf NM.out.sg TV.out.lf TV.out.lg)
  have C3 := S3.out.qc HX.out
  have q0 := C3.q0
  have q2 := C3.q2
  have q3 := C3.q3
  have ql := C3.ql
  have ll := C3.ll
  have lcv := C3.lc v hvn
  have hvi : (v : Int) < (n : Int) := by omega
  have hv0 : (0 : Int) ≤ (v : Int) := by omega
  clear C3 h2g hg1
  by_cases hlast : Q.last < (lev v : Int)
  · obtain ⟨pr, ex⟩ := Mgr.Pro.deep (l := l) WF.out NM.out.sf NM.out.sg (Mgr.exQ_deep RD.out (fun u hu hun => by
      have h1 := QLA.out u hu (by rw [← HN.out]; exact hun)
      rw [HL.out, HL.out]; omega))
    have AP := Lib.hid (fun (y : World) (ky : Kp No wc y) => Apply_ok f2 g2 0 (S3.out.no OK.out ky).rep NM.out.sf NM.out.sg (.inl (by omega)) (HB2.out _ pr.ad))
    have PR := Lib.hid pr
    have EX := Lib.hid ex
    clear pr ex RD TV NM HB HB2 IH THERE QLA HN HL
    generalize Mgr.build M.n M (iteF M f2 g2 0) = B at *
    generalize (lev v : Int) = lv at *
    go_upto_region 13 with fail
    go_quiet (fail)
    have kq : Kp No wc (wc.drewN nq) := Kp.drewN nq
    have q0' : (wc.drewN nq).cell? ⟨Q.bq, 0, none⟩ = some (ptr p) := by rw [kq.cell ql (fun x => x)]; exact q0
    clear q0 q2 q3 lcv
    generalize wc.drewN nq = W at *
    have KQ := Lib.hid kq
    have ql' : Q.bq < W.heap.size := World.block_lt_of_cell? _ _ q0'
    clear kq ll ql
    go_wp2_with fail
    refine (AP.out W KQ.out).mono ?_
    intro e w4 h4
    obtain ⟨rfl, L4, s4⟩ := (S3.out.no OK.out KQ.out).step OK.out EX.out h4
    have RET := Lib.hid (FIN.out B.1 B.2 L4 _ s4 PR.out)
    clear h4 s4 AP
    go_wp2_with fail
    go_ret
    exact RET.out
  have hlast' : (lev v : Int) ≤ Q.last := by omega
  obtain ⟨j, rcj⟩ := rc WF.out HN.out NM.out TV.out
  have RC := Lib.hid rcj
  clear rcj
  obtain ⟨K, hmap, hsnd⟩ := S3.out.memo
  have LK : Hid (∀ (W : World), Kp No wc W → (Instr.lookup 155 (.map (some Q.bs)) (.agg #[.int .i64 f2, .int .i64 g2]) true).run Try.prog W = .ok (.tuple #[(((K ((f2 : Int), (g2 : Int))).map natV).getD (.int .i64 0)), .bool (K ((f2 : Int), (g2 : Int))).isSome]) W) := Lib.hid (fun W kp =>
    (hmap.kp kp (fun x => x)).lookup keyPair Try.underlying155 zeroRef ((f2 : Int), (g2 : Int)) true)
  have LQ := Lib.hid (fun (W : World) (kp : Kp No wc W) => (S3.out.no OK.out kp).qc HX.out)
  generalize (lev v : Int) = lv at *
  go_upto_region 13 with fail
  go_quiet (fail)
  have kq : Kp No wc (wc.drewN nq) := Kp.drewN nq
  have KQ := Lib.hid kq
  clear q0 q2 q3 ql ll lcv kq hlast hlast'
  generalize wc.drewN nq = W at *
  have CW := LQ.out W KQ.out
  have q4 := CW.q4
  have ql := CW.ql
  clear CW
  have hl2 : ∀ m, (Instr.lookup 155 (.map (some Q.bs)) (.agg #[.int .i64 f2, .int .i64 g2]) true).run Try.prog ((W.alloc (.cells #[.int .i64 f2, .int .i64 g2] 161)).drewN m) = .ok (.tuple #[(((K ((f2 : Int), (g2 : Int))).map natV).getD (.int .i64 0)), .bool (K ((f2 : Int), (g2 : Int))).isSome]) ((W.alloc (.cells #[.int .i64 f2, .int .i64 g2] 161)).drewN m) := fun m => LK.out _ ((KQ.out.trans_no (Kp.alloc _)).trans_no (Kp.drewN _))
  cases hKx : K ((f2 : Int), (g2 : Int)) with
  | some r =>
    obtain ⟨x1, x2, hx, _, _, sr, hsem⟩ := hsnd _ r hKx
    simp only [Prod.mk.injEq, Int.natCast_inj] at hx
    obtain ⟨rfl, rfl⟩ := hx
    have RET := Lib.hid (fun (y : World) (ky : Kp No w y) => THERE.out y r ky sr (fun a => by rw [← NM.out.eq]; exact hsem a))
    rw [hKx] at hl2
    simp only [Option.map_some, Option.getD_some, Option.isSome_some, natV] at hl2
    clear hKx hsem hsnd hmap LK THERE FIN HB HB2 IH sr
    generalize Q.bs = bs at *
    go_wp2
    go_quiet (fail)
    go_wp2
    go_ret
    exact RET.out _ (((K3.out.trans_no KQ.out).trans_no (Kp.alloc _)).trans_no (Kp.drewN _))
  | none =>
    rw [hKx] at hl2
    simp only [Option.map_none, Option.getD_none, Option.isSome_none] at hl2
    have S4' := Lib.hid ((S3.out.no OK.out KQ.out).box OK.out #[.int .i64 f2, .int .i64 g2] 161)
    have HX' : Hid (∀ x, x ∈ Q.X p n l lev → x ∈ (W.heap.size, Obj.cells #[.int .i64 f2, .int .i64 g2] 161 (0, 0)) :: X) := Lib.hid (fun x hx => .tail _ (HX.out x hx))
    clear hKx hsnd hmap LK THERE
    go_wp2
    go_quiet (fail)
    go_wp2_with fail
    have S4 := Lib.hid (S4'.out.no OK.out (Kp.drewN nq))
    clear hl2 S4' q4 ql LQ
    generalize ((W.alloc (Obj.cells #[.int .i64 f2, .int .i64 g2] 161)).drewN nq) = W4 at *
    refine (qsplit_ok Q.bq f2 v S4.out.rep NM.out.sf (S4.out.qc HX'.out).q0).mono ?_
    rintro e w5 ⟨rfl, k5⟩
    have S5 := Lib.hid (S4.out.no OK.out k5)
    clear k5 S4
    go_wp2_with fail
    refine (qsplit_ok Q.bq g2 v S5.out.rep NM.out.sg (S5.out.qc HX'.out).q0).mono ?_
    rintro e w6 ⟨rfl, k6⟩
    have S6 := Lib.hid (S5.out.no OK.out k6)
    clear k6 S5
    go_wp2_with fail
    refine (IH.out M L _ (M.sp f2 v).1 (M.sp g2 v).1 w6 j RC.out.jk HX'.out S6.out.here HN.out HL.out RC.out.sf0 RC.out.sg0 RC.out.df0 RC.out.dg0 (fun M' ad => HB2.out M' (ad.mono (fun G hG => by
      rw [RC.out.e0] at hG
      exact Mgr.ProF.upd WF.out TV.out.vn RD.out hG)))).mono ?_
    intro e w7 h7
    obtain ⟨M1, r0, L1, rfl, t7, pr0⟩ := h7
    rw [RC.out.e0] at pr0
    have S7 := Lib.hid (S6.out.trans t7 (fun _ _ h => h))
    have P0 := Lib.hid pr0
    clear t7 pr0 S6
    have C7 := S7.out.qc HX'.out
    have q1 := C7.q1
    have ql := C7.ql
    have il := C7.il
    have icv := C7.ic v hvn
    have q0 := C7.q0
    have S0 : Hid (w7.drew.cell? ⟨Q.bq, 0, none⟩ = some (ptr p)) := Lib.hid (by rw [Kp.drew.cell ql (fun x => x)]; exact q0)
    have EA : Hid (andF M1 (M.sp f2 v).2 (M.sp g2 v).2 = fun a => andF M f2 g2 (Mgr.upd a v true)) := Lib.hid (by rw [andF_ext WF.out P0.out.ad.ext RC.out.sf1 RC.out.sg1, RC.out.e1])
    have PC := Lib.hid (fun (y : World) (ky : Kp No w7 y) => IH.out M1 L1 _ (M.sp f2 v).2 (M.sp g2 v).2 y j RC.out.jk HX'.out (S7.out.no OK.out ky).here (P0.out.ad.ext.n.trans HN.out) (fun u => (P0.out.ad.ext.lev u).trans (HL.out u)) (P0.out.ad.ext.stored RC.out.sf1) (P0.out.ad.ext.stored RC.out.sg1) (by rw [P0.out.ad.ext.depth RC.out.sf1]; exact RC.out.df1) (by rw [P0.out.ad.ext.depth RC.out.sg1]; exact RC.out.dg1) (fun M' ad => HB2.out M' ((P0.out.ad.mono (fun G hG => Mgr.ProF.upd WF.out TV.out.vn RD.out hG)).trans (ad.mono (fun G hG => by
      rw [EA.out] at hG
      exact Mgr.ProF.upd WF.out TV.out.vn RD.out ((Mgr.ProF.ext P0.out.ad.ext).1 hG))))))
    rw [EA.out] at PC
    clear C7
    generalize (M.sp f2 v).2 = f21 at *
    generalize (M.sp g2 v).2 = g21 at *
    by_cases hvl : v ∈ l
    · rw [decide_eq_true hvl] at icv
      by_cases hr : r0 = 1
      · have br : ((r0 : Int) != 1) = false := by simp; omega
        have P9 : Hid (Mgr.Pro M l (andF M f2 g2) M1 r0) := Lib.hid (by
          have := P0.out
          rw [hr] at this ⊢
          exact Mgr.Pro.full WF.out TV.out.vn RD.out hvl this)
        have S9 := S7
        clear hr PC S7 P0 S0
        go_wp2_with fail
        clear q0 q1 ql il icv
        obtain ⟨K9, m9, sn9⟩ := S9.out.memo
        obtain ⟨w10, hup, hm10, hk10, _⟩ := m9.update keyPair Try.underlying155 ((f2 : Int), (g2 : Int)) r0
        have up : (Instr.mapUpdate 155 (.map (some Q.bs)) (.agg #[.int .i64 f2, .int .i64 g2]) (.int .i64 r0)).run Try.prog w7.drew = .ok () w10.drew := hup 1
        have RET : Hid (QPost p L Q.bs l X w M (andF M f g) (.returned (.int .i64 (r0 : Int))) w10.drew) := Lib.hid (FIN.out (M1) (r0) L1 _ (((S9.out.upd hk10 ⟨_, hm10, fun y s hs => by
          split at hs
          · rename_i hy
            cases hs
            exact ⟨f2, g2, hy, P9.out.ad.ext.stored NM.out.sf, P9.out.ad.ext.stored NM.out.sg, P9.out.st, fun a => by rw [P9.out.sem, andF_ext WF.out P9.out.ad.ext NM.out.sf NM.out.sg]⟩
          · exact sn9 y s hs⟩).sub (fun _ _ h => .tail _ h)).no OK.out Kp.drew) P9.out)
        have C9 := S9.out.qc HX'.out
        have q4 := C9.q4
        have ql := C9.ql
        have e0 := (S9.out.cell (i := 0) (.head _) rfl).1
        have e1 := (S9.out.cell (i := 1) (.head _) rfl).1
        clear hup hm10 hk10 m9 sn9 C9 S9 P9 FIN IH HB
        generalize Q.bs = bs at *
        go_region
        go_wp2
        go_ret
        exact RET.out
      · have br : ((r0 : Int) != 1) = true := by simp; omega
        go_upto_region 25 with fail
        clear q1 icv il hr
        go_region_held3 (fun y => y.cell? ⟨Q.bq, 0, none⟩ = some (ptr p)) (first | exact S0.out | exact SB.out) (first | (go_at_call 55; (with_reducible refine (PC.out _ Kp.drew).mono ?_); intro e w8 h8; obtain ⟨M2, r1, L2, rfl, t8, pr1⟩ := h8; have S8 := Lib.hid ((S7.out.no OK.out Kp.drew).trans t8 (fun _ _ h => h)); have P1 := Lib.hid pr1; have SB := Lib.hid (S8.out.qc HX'.out).q0; clear t8 pr1) | (go_at_call 74; obtain ⟨jp, je⟩ := Mgr.Pro.apply WF.out TV.out.vn RD.out hvl P0.out P1.out; (with_reducible refine (Apply_one r0 r1 S8.out.rep (P1.out.ad.ext.stored P0.out.st) P1.out.st (HB2.out _ jp.ad)).mono ?_); intro e w9 h9; obtain ⟨rfl, L9, s9⟩ := S8.out.step OK.out je h9; have SB := Lib.hid (s9.qc HX'.out).q0; have S9 := Lib.hid s9; have P9 := Lib.hid jp; clear h9 s9 jp je))
        all_goals
          clear PC S7 P0 S0 P1 S8 SB q0 ql br
          generalize Mgr.build M2.n M2 (iteF M2 r0 1 r1) = B9 at *
          go_wp2_with fail
          obtain ⟨K9, m9, sn9⟩ := S9.out.memo
          obtain ⟨w10, hup, hm10, hk10, _⟩ := m9.update keyPair Try.underlying155 ((f2 : Int), (g2 : Int)) B9.2
          have up : (Instr.mapUpdate 155 (.map (some Q.bs)) (.agg #[.int .i64 f2, .int .i64 g2]) (.int .i64 B9.2)).run Try.prog w9.drew = .ok () w10.drew := hup 1
          have RET : Hid (QPost p L Q.bs l X w M (andF M f g) (.returned (.int .i64 (B9.2 : Int))) w10.drew) := Lib.hid (FIN.out (B9.1) (B9.2) L9 _ (((S9.out.upd hk10 ⟨_, hm10, fun y s hs => by
            split at hs
            · rename_i hy
              cases hs
              exact ⟨f2, g2, hy, P9.out.ad.ext.stored NM.out.sf, P9.out.ad.ext.stored NM.out.sg, P9.out.st, fun a => by rw [P9.out.sem, andF_ext WF.out P9.out.ad.ext NM.out.sf NM.out.sg]⟩
            · exact sn9 y s hs⟩).sub (fun _ _ h => .tail _ h)).no OK.out Kp.drew) P9.out)
          have C9 := S9.out.qc HX'.out
          have q4 := C9.q4
          have ql := C9.ql
          have e0 := (S9.out.cell (i := 0) (.head _) rfl).1
          have e1 := (S9.out.cell (i := 1) (.head _) rfl).1
          clear hup hm10 hk10 m9 sn9 C9 S9 P9 FIN IH HB
          generalize Q.bs = bs at *
          go_region
          go_wp2
          go_ret
          exact RET.out
    · rw [decide_eq_false hvl] at icv
      go_upto_region 23 with fail
      clear q1 icv il
      go_region_held3 (fun y => y.cell? ⟨Q.bq, 0, none⟩ = some (ptr p)) (first | exact S0.out | exact SB.out) (first | (go_at_call 55; (with_reducible refine (PC.out _ Kp.drew).mono ?_); intro e w8 h8; obtain ⟨M2, r1, L2, rfl, t8, pr1⟩ := h8; have S8 := Lib.hid ((S7.out.no OK.out Kp.drew).trans t8 (fun _ _ h => h)); have P1 := Lib.hid pr1; have SB := Lib.hid (S8.out.qc HX'.out).q0; clear t8 pr1) | (go_at_call 105; obtain ⟨jv, jp, je⟩ := Mgr.Pro.join WF.out TV.out.vn RD.out hvl P0.out P1.out; (with_reducible refine (Join_ok v r0 r1 S8.out.rep jv (P1.out.ad.ext.stored P0.out.st) P1.out.st (HB2.out _ jp.ad)).mono ?_); intro e w9 h9; obtain ⟨rfl, L9, s9⟩ := S8.out.step OK.out je h9; have SB := Lib.hid (s9.qc HX'.out).q0; have S9 := Lib.hid s9; have P9 := Lib.hid jp; clear h9 s9 jp je jv))
      all_goals
        clear PC S7 P0 S0 P1 S8 SB q0 ql
        generalize M2.joinM v r0 r1 = B9 at *
        go_wp2_with fail
        obtain ⟨K9, m9, sn9⟩ := S9.out.memo
        obtain ⟨w10, hup, hm10, hk10, _⟩ := m9.update keyPair Try.underlying155 ((f2 : Int), (g2 : Int)) B9.2
        have up : (Instr.mapUpdate 155 (.map (some Q.bs)) (.agg #[.int .i64 f2, .int .i64 g2]) (.int .i64 B9.2)).run Try.prog w9.drew = .ok () w10.drew := hup 1
        have RET : Hid (QPost p L Q.bs l X w M (andF M f g) (.returned (.int .i64 (B9.2 : Int))) w10.drew) := Lib.hid (FIN.out (B9.1) (B9.2) L9 _ (((S9.out.upd hk10 ⟨_, hm10, fun y s hs => by
          split at hs
          · rename_i hy
            cases hs
            exact ⟨f2, g2, hy, P9.out.ad.ext.stored NM.out.sf, P9.out.ad.ext.stored NM.out.sg, P9.out.st, fun a => by rw [P9.out.sem, andF_ext WF.out P9.out.ad.ext NM.out.sf NM.out.sg]⟩
          · exact sn9 y s hs⟩).sub (fun _ _ h => .tail _ h)).no OK.out Kp.drew) P9.out)
        have C9 := S9.out.qc HX'.out
        have q4 := C9.q4
        have ql := C9.ql
        have e0 := (S9.out.cell (i := 0) (.head _) rfl).1
        have e1 := (S9.out.cell (i := 1) (.head _) rfl).1
        clear hup hm10 hk10 m9 sn9 C9 S9 P9 FIN IH HB
        generalize Q.bs = bs at *
        go_region
        go_wp2
        go_ret
        exact RET.out

/-- The contract of 'product', at the levels that are left. -/
theorem product_ok {p : Nat} {Q : QL} {l : List Nat} {n : Nat} {lev : Nat → Nat} (hQl : ∀ v, v ∈ l → v < n → (lev v : Int) ≤ Q.last) (hn256 : n ≤ 256) : ∀ (k : Nat) (M : Mgr) (L : Lay) (X : List (Nat × Obj)) (f g : Nat) (w : World), (∀ x, x ∈ Q.X p n l lev → x ∈ X) → Sk w p L Q.bs X (PMemo l Q.bs) w M L → M.n = n → (∀ v, M.lev v = lev v) → M.stored f → M.stored g → n < k + M.depth f → n < k + M.depth g →
    (∀ M', Mgr.Adds M M' (M.ProF l (andF M f g)) → M'.nodes.length ≤ big) →
    Calls Try.prog 55 #[ptr Q.bq, .int .i64 (f : Int), .int .i64 (g : Int)] w (QPost p L Q.bs l X w M (andF M f g)) := by
  intro k
  induction k using Nat.strongRecOn with
  | _ k ih =>
    intro M L X f g w hX s hn hlev hf hg df dg hb
    exact product_step (fun M L X f g w j hj hX s hn hlev hf hg df dg hb => ih j hj M L X f g w hX s hn hlev hf hg df dg hb) hQl hn256 f g hX s hn hlev hf hg df dg hb

end Go.Proofs.Ytngbodmooddjbaa
