/-
  Walks: 'Count' of the package quant.
-/
import Derived.Test.YtngbodmooddjbaaCn
import Derived.Test.YtngbodmooddjbaaNb
import Derived.Test.YtngbodmooddjbaaVm
import Derived.Deep.RegionHeld3
namespace Go.Proofs.Ytngbodmooddjbaa
open Go.RowKit

def cnCells (p gt n ct tot bs : Nat) : Array Value := #[ptr p, .slice (some ⟨gt, 0, none⟩) n ct, .int .i64 (tot : Int), .map (some bs)]
/-- The state while a counter counts. -/
structure CtS (w0 : World) (p : Nat) (L : Lay) (br bs gt n ct : Nat) (M : Mgr) (ss : List Nat) (w : World) : Prop where
  rep : Rep w p M L
  kp : Kp (fun z => z = bs) w0 w
  str : w.heap[br]? = some (.cells (cnCells p gt n ct ss.length bs) 150 (0, 0))
  pos : gt < w.heap.size ∧ ∀ v, v ∈ ss → w.cell? ⟨gt, v, none⟩ = some (.int .i64 (ss.idxOf v : Int))
  memo : ∃ K : Int → Option Nat, MapAs w bs intV numV K ∧ ∀ x N, K x = some N → ∃ f : Nat, x = (f : Int) ∧ N = cnM M ss f
  ne : bs ≠ gt ∧ ¬ L.at p bs
section
variable {w0 w w' : World} {p br bs gt n ct : Nat} {L : Lay} {M : Mgr} {ss : List Nat}
theorem CtS.no (s : CtS w0 p L br bs gt n ct M ss w) (k : Kp No w w') : CtS w0 p L br bs gt n ct M ss w' := by
  refine ⟨s.rep.no k, s.kp.trans_no k, by rw [k.block _ (heap_lt s.str) (fun z => z)]; exact s.str, ⟨Nat.lt_of_lt_of_le s.pos.1 k.size, fun v hv => ?_⟩, ?_, s.ne⟩
  · have h := s.pos.2 v hv
    simp only [World.cell?] at h ⊢
    rw [k.block gt s.pos.1 (fun z => z)]; exact h
  · obtain ⟨K, m, sn⟩ := s.memo
    exact ⟨K, m.kp k (fun z => z), sn⟩
theorem CtS.here (s : CtS w0 p L br bs gt n ct M ss w) : CtS w p L br bs gt n ct M ss w := ⟨s.rep, Kp.refl _ _, s.str, s.pos, s.memo, s.ne⟩
theorem CtS.trans {wA : World} (s : CtS w0 p L br bs gt n ct M ss wA) (t : CtS wA p L br bs gt n ct M ss w) : CtS w0 p L br bs gt n ct M ss w :=
  ⟨t.rep, s.kp.trans (A' := fun z => z = bs) (fun _ h => .inl h) t.kp, t.str, t.pos, t.memo, t.ne⟩
theorem CtS.q (s : CtS w0 p L br bs gt n ct M ss w) : (w.cell? ⟨br, 0, none⟩ = some (ptr p) ∧ w.cell? ⟨br, 1, none⟩ = some (.slice (some ⟨gt, 0, none⟩) n ct) ∧ w.cell? ⟨br, 2, none⟩ = some (.int .i64 (ss.length : Int)) ∧ w.cell? ⟨br, 3, none⟩ = some (.map (some bs))) ∧ br < w.heap.size :=
  ⟨⟨by rw [cell_of_row _ _ _ _ _ _ s.str]; rfl, by rw [cell_of_row _ _ _ _ _ _ s.str]; rfl, by rw [cell_of_row _ _ _ _ _ _ s.str]; rfl, by rw [cell_of_row _ _ _ _ _ _ s.str]; rfl⟩, heap_lt s.str⟩
theorem CtS.upd (s : CtS w0 p L br bs gt n ct M ss w) (hb : bs ≠ br) (k : Kp (fun z => z = bs) w w') (memo : ∃ K : Int → Option Nat, MapAs w' bs intV numV K ∧ ∀ x N, K x = some N → ∃ f : Nat, x = (f : Int) ∧ N = cnM M ss f) : CtS w0 p L br bs gt n ct M ss w' := by
  refine ⟨s.rep.kp k (fun z hz => by rw [hz]; exact s.ne.2), s.kp.trans (A' := fun z => z = bs) (fun _ h => .inl h) k, by rw [k.block _ (heap_lt s.str) (fun z => hb z.symm)]; exact s.str, ⟨Nat.lt_of_lt_of_le s.pos.1 k.size, fun v hv => ?_⟩, memo, s.ne⟩
  have h := s.pos.2 v hv
  simp only [World.cell?] at h ⊢
  rw [k.block gt s.pos.1 (fun z => s.ne.1 z.symm)]; exact h
theorem CtS.own {b : Nat} (s : CtS w0 p L br bs gt n ct M ss w) (h : w0.heap.size ≤ b) (h1 : b ≠ br) (h2 : b ≠ gt) (h3 : b ≠ bs) (h4 : ¬ L.at p b) (k : Kp (fun z => z = b) w w') : CtS w0 p L br bs gt n ct M ss w' := by
  refine ⟨s.rep.kp k (fun z hz => by rw [hz]; exact h4), s.kp.trans (A' := fun z => z = b) (fun z hz => .inr (by rw [hz]; exact h)) k, by rw [k.block _ (heap_lt s.str) (fun z => h1 z.symm)]; exact s.str, ⟨Nat.lt_of_lt_of_le s.pos.1 k.size, fun v hv => ?_⟩, ?_, s.ne⟩
  · have hc := s.pos.2 v hv
    simp only [World.cell?] at hc ⊢
    rw [k.block gt s.pos.1 (fun z => h2 z.symm)]; exact hc
  · obtain ⟨K, m, sn⟩ := s.memo
    exact ⟨K, m.kp k (fun z => h3 z.symm), sn⟩
theorem CtS.neb (s : CtS w0 p L br bs gt n ct M ss w) : bs ≠ br := fun e => by
  obtain ⟨K, ⟨es, clock, hb, _⟩, _⟩ := s.memo
  rw [e, s.str] at hb; simp at hb

set_option maxRecDepth 100000 in
set_option maxHeartbeats 1000000 in
theorem place_ok (f : Nat) (s : CtS w0 p L br bs gt n ct M ss w) (sf : M.stored f) (hn : ∀ v, v ∈ ss → v < n) (hm : 2 ≤ f → (M.nd f).1.toNat ∈ ss) :
    Calls Try.prog 101 #[ptr br, .int .i64 (f : Int)] w fun e w' => e = .returned (.int .i64 (plc M ss f : Int)) ∧ Kp No w w' := by
  have ND := Lib.hid (Node_ok f s.rep sf)
  have ST := Lib.hid (fun (y : World) (ky : Kp No w y) => s.no ky)
  obtain ⟨⟨q0, q1, q2, q3⟩, ql⟩ := s.q
  by_cases h2 : f < 2
  · have hnd : (M.nd f).1 = -1 := by
      have : f = 0 ∨ f = 1 := by omega
      rcases this with rfl | rfl
      · rw [s.rep.wf.nd0]
      · rw [s.rep.wf.nd1]
    have ep : plc M ss f = ss.length := by unfold plc; rw [if_pos h2]
    rw [hnd] at ND
    rw [ep]
    clear s hnd h2 hm ep
    go_enter Try.func101, Try.ntmps101
    go_wp2_with fail
    refine ND.out.mono ?_
    rintro e w1 ⟨rfl, k1⟩
    obtain ⟨⟨d0, d1, d2, d3⟩, dl⟩ := (ST.out w1 k1).q
    have K1 := Lib.hid k1
    clear k1 ND q0 q1 q2 q3 ql
    go_wp2_with fail
    go_ret
    exact ⟨rfl, K1.out⟩
  · obtain ⟨v0, v1, _⟩ := Mgr.node_of s.rep.wf sf (by omega)
    have hmem := hm (by omega)
    have ep : plc M ss f = ss.idxOf (M.nd f).1.toNat := by unfold plc; rw [if_neg h2]
    rw [ep]
    obtain ⟨v, hv⟩ := Int.eq_ofNat_of_zero_le v0
    have hvt : (M.nd f).1.toNat = v := by omega
    rw [hvt] at hmem ⊢
    have hvn := hn v hmem
    have hvi : (v : Int) < (n : Int) := by omega
    have CELL := Lib.hid (fun (y : World) (ky : Kp No w y) => ((s.no ky).pos.2 v hmem))
    rw [hv] at ND
    clear s h2 hm ep v0 v1 hv hvt
    generalize ss.idxOf v = ix at *
    go_enter Try.func101, Try.ntmps101
    go_wp2_with fail
    refine ND.out.mono ?_
    rintro e w1 ⟨rfl, k1⟩
    obtain ⟨⟨d0, d1, d2, d3⟩, dl⟩ := (ST.out w1 k1).q
    have cx := CELL.out w1 k1
    have K1 := Lib.hid k1
    clear k1 ND q0 q1 q2 q3 ql
    go_wp2_with fail
    go_ret
    exact ⟨rfl, K1.out⟩
end

theorem zero2 {w : World} {b : Nat} {t : TypeId} {x y : Value} (h : w.heap[b]? = some (.cells #[x, y] t (0, 0))) : w.cell? ⟨b, 0, none⟩ = some x ∧ w.cell? ⟨b, 1, none⟩ = some y ∧ (∀ j, w.frozen? ⟨b, j, none⟩ = false) ∧ b < w.heap.size :=
  ⟨by rw [cell_of_row _ _ _ _ _ _ h]; rfl, by rw [cell_of_row _ _ _ _ _ _ h]; rfl, fun j => by simp [World.frozen?, h], heap_lt h⟩
def CPost (w : World) (p : Nat) (L : Lay) (br bs gt n ct : Nat) (M : Mgr) (ss : List Nat) (f : Nat) (e : Ending) (w' : World) : Prop := e = .returned (numV (cnM M ss f)) ∧ CtS w p L br bs gt n ct M ss w'
theorem zeroNum (w : World) : (zeroValue 152).run Try.prog w = .ok (numV 0) w := by kernel_rfl
theorem cnM_le (M : Mgr) (ss : List Nat) (f : Nat) : cnM M ss f ≤ 2 ^ (ss.length - plc M ss f) := by
  unfold cnM
  have := cntL_le (ss.drop (plc M ss f)) (M.sem f)
  rwa [List.length_drop] at this

set_option maxRecDepth 100000 in
set_option maxHeartbeats 4000000 in
theorem count_step {k p br bs gt n ct : Nat} {L : Lay} {M : Mgr} {ss : List Nat} (srt : Srt M ss) (hss : ss.length ≤ 127) (hn : ∀ v, v ∈ ss → v < n)
    (ih : ∀ (f : Nat) (w : World) (j : Nat), j < k → CtS w p L br bs gt n ct M ss w → M.stored f → VarsIn M ss f → M.n < j + M.depth f → Calls Try.prog 99 #[ptr br, .int .i64 (f : Int)] w (CPost w p L br bs gt n ct M ss f))
    (f : Nat) {w : World} (s : CtS w p L br bs gt n ct M ss w) (sf : M.stored f) (vi : VarsIn M ss f) (df : M.n < k + M.depth f) :
    Calls Try.prog 99 #[ptr br, .int .i64 (f : Int)] w (CPost w p L br bs gt n ct M ss f) := by
  have IH := Lib.hid ih
  clear ih
  have S0 := Lib.hid s
  have SA := Lib.hid (s.no (Kp.alloc (.cells #[.int .u64 0, .int .u64 0] 152)))
  by_cases h2 : f < 2
  · have hcn : cnM M ss f = f := by
      unfold cnM plc
      rw [if_pos h2, List.drop_length]
      simp only [cntL]
      rw [M.sem_const _ _ h2]
      have : f = 0 ∨ f = 1 := by omega
      rcases this with rfl | rfl <;> rfl
    have RET := Lib.hid (show ∀ y, Kp No w y → CPost w p L br bs gt n ct M ss f (.returned (numV f)) y from fun y ky => ⟨by rw [hcn], S0.out.no ky⟩)
    clear hcn S0 SA s sf vi df IH
    have : f = 0 ∨ f = 1 := by omega
    rcases this with rfl | rfl
    · go_enter Try.func99, Try.ntmps99
      go_wp2_with fail
      refine bodyPost_ret (v := numV 0) (by simp [results, Try.results99, go_sem, numV]) rfl (RET.out _ (Kp.alloc _))
    · go_enter Try.func99, Try.ntmps99
      go_wp2_with fail
      refine bodyPost_ret (v := numV 1) (by simp [results, Try.results99, go_sem, numV]) rfl (RET.out _ (Kp.alloc _))
  have hf2 : 2 ≤ f := by omega
  have WF := Lib.hid s.rep.wf
  obtain ⟨v0, v1, sl, sh, _, dl, dh⟩ := Mgr.node_of WF.out sf hf2
  have hdf : M.depth f = M.lev (M.nd f).1.toNat := by unfold Mgr.depth; rw [if_neg (by omega)]
  have hvl : VarsIn M ss (M.nd f).2.1 := fun j g hr => vi (j + 1) g ⟨hf2, .inr (.inl hr)⟩
  have hvh : VarsIn M ss (M.nd f).2.2 := fun j g hr => vi (j + 1) g ⟨hf2, .inr (.inr hr)⟩
  have top : ∀ g, VarsIn M ss g → 2 ≤ g → (M.nd g).1.toNat ∈ ss := fun g hg h => hg 1 g ⟨h, .inl rfl⟩
  have hmf := top f vi hf2
  obtain ⟨⟨a0, b0⟩, ⟨a1, b1⟩, hsum⟩ := cnM_node WF.out srt sf hf2 hmf (top _ hvl) (top _ hvh)
  have c0 := cnM_le M ss (M.nd f).2.1
  have c1 := cnM_le M ss (M.nd f).2.2
  have pf : plc M ss f = ss.idxOf (M.nd f).1.toNat := by unfold plc; rw [if_neg h2]
  have hk : 0 < k := by have := M.depth_le WF.out sf; omega
  have PL := Lib.hid (fun (y : World) (t : CtS w p L br bs gt n ct M ss y) => place_ok (M.nd f).2.1 t sl hn (top _ hvl))
  have PH := Lib.hid (fun (y : World) (t : CtS w p L br bs gt n ct M ss y) => place_ok (M.nd f).2.2 t sh hn (top _ hvh))
  have IL := Lib.hid (fun (y : World) (t : CtS w p L br bs gt n ct M ss y) => IH.out (M.nd f).2.1 y (k - 1) (by omega) t.here sl hvl (by omega))
  have IR := Lib.hid (fun (y : World) (t : CtS w p L br bs gt n ct M ss y) => IH.out (M.nd f).2.2 y (k - 1) (by omega) t.here sh hvh (by omega))
  have ND := Lib.hid (fun (y : World) (ky : Kp No w y) => Node_ok f (s.rep.no ky) sf)
  obtain ⟨v, hv⟩ := Int.eq_ofNat_of_zero_le v0
  have hvt : (M.nd f).1.toNat = v := by omega
  rw [hvt] at hmf pf
  rw [hv] at ND
  have hvn := hn v hmf
  have hvi : (v : Int) < (n : Int) := by omega
  have hv00 : (0 : Int) ≤ (v : Int) := by omega
  have HM := Lib.hid hmf
  rw [pf] at a0 a1 hsum
  generalize (M.nd f).2.1 = lo at *
  generalize (M.nd f).2.2 = hi at *
  obtain ⟨P0, hP0⟩ : ∃ x, plc M ss lo = x := ⟨_, rfl⟩
  obtain ⟨P1, hP1⟩ : ∃ x, plc M ss hi = x := ⟨_, rfl⟩
  obtain ⟨i, hi0⟩ : ∃ x, ss.idxOf v = x := ⟨_, rfl⟩
  rw [hP0] at PL a0 b0 c0 hsum
  rw [hP1] at PH a1 b1 c1 hsum
  rw [hi0] at a0 a1 hsum
  have pw : ∀ a b c m : Nat, c ≤ 2 ^ (m - a) → b ≤ a → a ≤ m → m ≤ 127 → 1 ≤ b → c * 2 ^ (a - b) ≤ 2 ^ 126 := fun a b c m h1 h2 h3 h4 h5 => by
    have e := Nat.mul_le_mul_right (2 ^ (a - b)) h1
    rw [← Nat.pow_add] at e
    exact Nat.le_trans e (Nat.pow_le_pow_right (by decide) (by omega))
  have q0 := pw P0 (i + 1) _ ss.length c0 a0 b0 hss (by omega)
  have q1 := pw P1 (i + 1) _ ss.length c1 a1 b1 hss (by omega)
  have e126 : (2 : Nat) ^ 128 = 2 ^ 126 * 4 := by decide
  have p126 : 0 < (2 : Nat) ^ 126 := by decide
  have SH0 := Lib.hid (fun (y : World) => shift_ok (cnM M ss lo) (P0 - (i + 1)) (by omega) (by omega) y)
  have SH1 := Lib.hid (fun (y : World) => shift_ok (cnM M ss hi) (P1 - (i + 1)) (by omega) (by omega) y)
  have AD := Lib.hid (fun (y : World) => add_ok (cnM M ss lo * 2 ^ (P0 - (i + 1))) (cnM M ss hi * 2 ^ (P1 - (i + 1))) (by omega) y)
  rw [← hsum] at AD
  have e0 : (P0 : Int) - ((i : Int) + 1) = ((P0 - (i + 1) : Nat) : Int) := by omega
  have e1 : (P1 : Int) - ((i : Int) + 1) = ((P1 - (i + 1) : Nat) : Int) := by omega
  have hP0i : (P0 : Int) ≤ 127 := by omega
  have hP1i : (P1 : Int) ≤ 127 := by omega
  have hii : (i : Int) ≤ 127 := by omega
  obtain ⟨HH, LL, EN⟩ : ∃ HH LL : Nat, numV (cnM M ss f) = .agg #[.int .u64 (HH : Int), .int .u64 (LL : Int)] := ⟨_, _, rfl⟩
  rw [EN] at AD
  have ENH := Lib.hid EN
  clear EN
  have E0 := Lib.hid e0
  have E1 := Lib.hid e1
  have I0 := Lib.hid hi0
  have BS := Lib.hid s.neb
  obtain ⟨K, hmap, hsnd⟩ := S0.out.memo
  have hbs := hmap.lt
  have BZ : Hid (∀ y, Kp (fun z => z = bs) (w.alloc (.cells #[.int .u64 0, .int .u64 0] 152)) y → y.heap[w.heap.size]? = some (.cells #[.int .u64 0, .int .u64 0] 152 (0, 0))) := Lib.hid (fun y ky => by
    rw [ky.block _ (by simp) (fun e => by omega)]; exact heap_alloc_new _ _)
  have LK : Hid (∀ (W : World), Kp No w W → (Instr.lookup 148 (.map (some bs)) (.int .i64 f) true).run Try.prog W = .ok (.tuple #[(((K (f : Int)).map numV).getD (numV 0)), .bool (K (f : Int)).isSome]) W) := Lib.hid (fun W kp =>
    (hmap.kp kp (fun x => x)).lookup keyRef Try.underlying148 zeroNum (f : Int) true)
  have fz : ((f : Int) == 0) = false := by simp; omega
  have fo : ((f : Int) == 1) = false := by simp; omega
  have HF := Lib.hid hf2
  clear c0 c1 q0 q1 e126 p126 pw hsum e0 e1 hP0 hP1 hi0 a0 a1 b0 b1 pf hv hvt hmf v0 v1 sl sh dl dh hdf hvl hvh top hk IH s sf vi df hn hss srt h2 hf2
  cases hKf : K (f : Int) with
  | some N =>
    obtain ⟨f', hf', hN⟩ := hsnd _ N hKf
    have : f' = f := by omega
    subst this
    have RET := Lib.hid (show ∀ y, Kp No w y → CPost w p L br bs gt n ct M ss f' (.returned (numV N)) y from fun y ky => ⟨by rw [hN], S0.out.no ky⟩)
    rw [hKf] at LK
    simp only [Option.map_some, Option.getD_some, Option.isSome_some] at LK
    unfold numV at LK
    have lk := LK.out _ (Kp.alloc (.cells #[.int .u64 0, .int .u64 0] 152))
    obtain ⟨⟨d0, d1, d2, d3⟩, dl⟩ := SA.out.q
    clear hmap hsnd hKf hf' hN LK PL PH IL IR SH0 SH1 AD BZ
    go_enter Try.func99, Try.ntmps99
    go_wp2_with fail
    refine bodyPost_ret (v := numV N) (by simp [results, Try.results99, go_sem, numV]) rfl (RET.out _ ((Kp.alloc _).trans_no (Kp.alloc _)))
  | none =>
    rw [hKf] at LK
    simp only [Option.map_none, Option.getD_none, Option.isSome_none] at LK
    unfold numV at LK
    have lk := LK.out _ (Kp.alloc (.cells #[.int .u64 0, .int .u64 0] 152))
    obtain ⟨⟨d0, d1, d2, d3⟩, dl⟩ := SA.out.q
    obtain ⟨⟨g0, g1, g2, g3⟩, gl⟩ := (SA.out.no (Kp.alloc (.cells #[.int .u64 0, .int .u64 0] 152))).q
    clear hmap hsnd hKf LK
    go_enter Try.func99, Try.ntmps99
    go_wp2_with fail
    refine (ND.out _ ((Kp.alloc _).trans_no (Kp.alloc _))).mono ?_
    rintro e w1 ⟨rfl, k1⟩
    have S1 := Lib.hid (S0.out.no (((Kp.alloc _).trans_no (Kp.alloc _)).trans_no k1))
    have Z1 := Lib.hid (BZ.out _ ((Kp.alloc _).trans_no k1).of_no)
    have K1 : Hid (Kp (fun z => z = bs) (w.alloc (.cells #[.int .u64 0, .int .u64 0] 152)) w1) := Lib.hid ((Kp.alloc _).trans_no k1).of_no
    clear k1 ND lk d0 d1 d2 d3 dl SA g0 g1 g2 g3 gl
    obtain ⟨⟨d0, d1, d2, d3⟩, dl⟩ := S1.out.q
    have cx := S1.out.pos.2 v HM.out
    rw [I0.out] at cx
    go_wp2_with fail
    refine (IL.out w1 S1.out).mono ?_
    rintro e w2 ⟨rfl, t2⟩
    have S2 := Lib.hid (S1.out.trans t2)
    have K2 := Lib.hid (K1.out.trans (A' := fun z => z = bs) (fun _ h => .inl h) t2.kp)
    clear t2 S1 K1 Z1 d0 d1 d2 d3 dl cx
    go_wp2_with fail
    refine (PL.out w2 S2.out).mono ?_
    rintro e w3 ⟨rfl, k3⟩
    have S3 := Lib.hid (S2.out.no k3)
    have K3 := Lib.hid (K2.out.trans_no k3)
    clear k3 S2 K2
    go_wp2_with fail
    rw [E0.out]
    refine (SH0.out w3).mono ?_
    rintro e w4 ⟨rfl, k4⟩
    have S4 := Lib.hid (S3.out.no k4)
    have K4 := Lib.hid (K3.out.trans_no k4)
    clear k4 S3 K3
    go_wp2_with fail
    refine (IR.out w4 S4.out).mono ?_
    rintro e w5 ⟨rfl, t5⟩
    have S5 := Lib.hid (S4.out.trans t5)
    have K5 := Lib.hid (K4.out.trans (A' := fun z => z = bs) (fun _ h => .inl h) t5.kp)
    clear t5 S4 K4
    go_wp2_with fail
    refine (PH.out w5 S5.out).mono ?_
    rintro e w6 ⟨rfl, k6⟩
    have S6 := Lib.hid (S5.out.no k6)
    have K6 := Lib.hid (K5.out.trans_no k6)
    clear k6 S5 K5
    go_wp2_with fail
    rw [E1.out]
    refine (SH1.out w6).mono ?_
    rintro e w7 ⟨rfl, k7⟩
    have S7 := Lib.hid (S6.out.no k7)
    have K7 := Lib.hid (K6.out.trans_no k7)
    clear k7 S6 K6
    go_wp2_with fail
    refine (AD.out w7).mono ?_
    rintro e w8 ⟨rfl, k8⟩
    have S8 := Lib.hid ((S7.out.no k8).no (Kp.alloc (.cells #[.int .u64 (HH : Int), .int .u64 (LL : Int)] 152)))
    have K8 := Lib.hid ((K7.out.trans_no k8).trans_no (Kp.alloc (.cells #[.int .u64 (HH : Int), .int .u64 (LL : Int)] 152)))
    have Z8 := Lib.hid (heap_alloc_new w8 (.cells #[.int .u64 (HH : Int), .int .u64 (LL : Int)] 152))
    have N8 : Hid (bs < w8.heap.size ∧ w.heap.size < w8.heap.size) := Lib.hid (by have h1 := (K7.out.trans_no k8).size; simp at h1; omega)
    clear k8 S7 K7 AD SH0 SH1 IL IR PL PH
    go_upto_region 9 with fail
    generalize w8.alloc (.cells #[.int .u64 (HH : Int), .int .u64 (LL : Int)] 152) = w9 at *
    obtain ⟨b9, hb9⟩ : ∃ x, w8.heap.size = x := ⟨_, rfl⟩
    rw [hb9] at Z8 N8 ⊢
    clear hb9
    obtain ⟨⟨d0, d1, d2, d3⟩, dl⟩ := S8.out.q
    obtain ⟨c0, c1, _, cl⟩ := zero2 Z8.out
    obtain ⟨K9, m9, sn9⟩ := S8.out.memo
    obtain ⟨w10, hup, hm10, hk10, _⟩ := m9.update keyRef Try.underlying148 (f : Int) (cnM M ss f)
    rw [ENH.out] at hup
    have up : (Instr.mapUpdate 148 (.map (some bs)) (.int .i64 f) (.agg #[.int .u64 (HH : Int), .int .u64 (LL : Int)])).run Try.prog w9.drew = .ok () (w10.drewN 1) := hup 1
    clear hup
    have S10 : Hid (CtS w p L br bs gt n ct M ss (w10.drewN 1)) := Lib.hid ((S8.out.upd BS.out hk10 ⟨_, hm10, fun y N hs => by
      split at hs
      · rename_i hy
        cases hs
        exact ⟨f, hy, rfl⟩
      · exact sn9 y N hs⟩).no (Kp.drewN 1))
    have Z10 := Lib.hid (zero2 (BZ.out _ ((K8.out.trans (A' := fun z => z = bs) (fun _ h => .inl h) hk10).trans_no (Kp.drewN 1))))
    have Z11 : Hid ((w10.drewN 1).heap[b9]? = some (.cells #[.int .u64 (HH : Int), .int .u64 (LL : Int)] 152 (0, 0))) := Lib.hid (by
      rw [(hk10.trans_no (Kp.drewN 1)).block _ (heap_lt Z8.out) (fun e => by have := N8.out; omega)]; exact Z8.out)
    clear m9 sn9 hm10 hk10 S8 K8 Z8
    generalize w10.drewN 1 = w11 at *
    go_region
    clear up d0 d1 d2 d3 c0 c1
    obtain ⟨z0, z1, zf, zl⟩ := Z10.out
    obtain ⟨y0, y1, _, yl⟩ := zero2 Z11.out
    have F0 := zf 0
    have F1 := zf 1
    go_wp2_with fail
    refine bodyPost_ret (v := .agg #[.int .u64 (HH : Int), .int .u64 (LL : Int)]) (by simp [results, Try.results99, go_sem, z0, z1]) rfl ⟨by rw [ENH.out], S10.out.own (b := w.heap.size) (Nat.le_refl _) (fun e => by have := S0.out.q.2; omega) (fun e => by have := S0.out.pos.1; omega) (fun e => by omega) (fun e => by have := S0.out.rep.lt _ e; omega) ?_⟩
    exact ((Kp.setCell (w := w11) ⟨w.heap.size, 0, none⟩ (.int .u64 (HH : Int))).mono (A' := fun z => z = w.heap.size) (fun _ _ e => e)).trans (A' := fun z => z = w.heap.size) (fun _ h => .inl h) ((Kp.setCell ⟨w.heap.size, 1, none⟩ _).mono (fun _ _ e => e))

theorem count_ok {p br bs gt n ct : Nat} {L : Lay} {M : Mgr} {ss : List Nat} (srt : Srt M ss) (hss : ss.length ≤ 127) (hn : ∀ v, v ∈ ss → v < n) : ∀ (k f : Nat) (w : World), CtS w p L br bs gt n ct M ss w → M.stored f → VarsIn M ss f → M.n < k + M.depth f →
    Calls Try.prog 99 #[ptr br, .int .i64 (f : Int)] w (CPost w p L br bs gt n ct M ss f) := by
  intro k
  induction k using Nat.strongRecOn with
  | _ k ih =>
    intro f w s sf vi df
    exact count_step srt hss hn (fun f w j hj s sf vi df => ih j hj f w s sf vi df) f s sf vi df

end Go.Proofs.Ytngbodmooddjbaa

namespace Go.Proofs.Ytngbodmooddjbaa
open Go.RowKit

def posRow (n : Nat) (ss : List Nat) (i : Nat) : List Value := (List.range n).map fun v => natV (if v ∈ ss.take i then ss.idxOf v else 0)
theorem posRow_zero (n : Nat) (ss : List Nat) : posRow n ss 0 = List.replicate n (.int .i64 0) := by
  apply List.ext_getElem?
  intro j
  by_cases hj : j < n
  · simp [posRow, hj, natV]
  · simp [posRow, hj]
theorem posRow_set {n : Nat} {ss : List Nat} (nd : ss.Nodup) {i : Nat} (hi : i < ss.length) : (posRow n ss i).set ss[i] (natV i) = posRow n ss (i + 1) := by
  have hx : ss.idxOf ss[i] = i := nd.idxOf_getElem i hi
  have et : ss.take (i + 1) = ss.take i ++ [ss[i]] := List.take_succ_eq_append_getElem hi
  apply List.ext_getElem?
  intro j
  unfold posRow
  rw [et]
  by_cases hj : j < n
  · by_cases e : ss[i] = j
    · subst e
      rw [List.getElem?_set_self (by simp [hj]), List.getElem?_map, List.getElem?_range hj]
      simp only [Option.map_some, List.mem_append, List.mem_singleton, or_true, if_true, hx]
    · have e' : ¬ j = ss[i] := fun h => e h.symm
      rw [List.getElem?_set_ne e, List.getElem?_map, List.getElem?_map, List.getElem?_range hj]
      simp only [Option.map_some, List.mem_append, List.mem_singleton, e', or_false]
  · rw [List.getElem?_eq_none (by simp; omega), List.getElem?_eq_none (by simp; omega)]

structure CqJ (w : World) (p br bs gt n tot : Nat) (xs : List Value) (x : World) : Prop where
  str : x.heap[br]? = some (.cells (cnCells p gt n n tot bs) 150 (0, 0))
  mp : x.heap[bs]? = some (.map #[] 0)
  row : x.ownsRow w.heap.size 3 1 (.slice (some ⟨gt, 0, none⟩) n n) n xs
  kp : Kp No w x
def CqR (w : World) (p br bs gt n : Nat) (ss : List Nat) (gk : Nat) (s : Value) (x : World) : Prop := ∃ i, i + gk = ss.length ∧ s = .int .i64 (i : Int) ∧ CqJ w p br bs gt n ss.length (posRow n ss i) x

theorem vars_in {M : Mgr} (wf : M.WF) {f : Nat} (sf : M.stored f) (hf : M.valid (f : Int) = true) {vs : List Nat} (h : ∀ v, v ∈ M.supM (f : Int) → v ∈ vs) : VarsIn M vs f := fun k g hr => by
  obtain ⟨sg, g2, _⟩ := Mgr.Reach.spec wf sf hr
  obtain ⟨v0, v1, _⟩ := Mgr.node_of wf sg g2
  refine h _ ?_
  unfold Mgr.supM
  rw [if_pos hf, Int.toNat_natCast, Mgr.mem_supp]
  exact ⟨by omega, g, ((Mgr.nodesOf_spec wf sf).2.1 g).2 (Mgr.Reach.fuel wf sf hr _ (by omega)), by omega⟩
theorem cnM_all {M : Mgr} {ss : List Nat} {f : Nat} (wf : M.WF) (srt : Srt M ss) (sf : M.stored f) (vi : VarsIn M ss f) : plc M ss f ≤ ss.length ∧ cnM M ss f * 2 ^ plc M ss f = cntL (M.sem f) ss := by
  have hle : plc M ss f ≤ ss.length := by
    unfold plc; split
    · exact Nat.le_refl _
    · exact List.idxOf_le_length
  refine ⟨hle, ?_⟩
  have e := cntL_skip (ss.take (plc M ss f)) (ss.drop (plc M ss f)) (F := M.sem f) (fun v hv a x => by
    obtain ⟨i, hi, rfl⟩ := List.getElem_of_mem hv
    simp only [List.length_take] at hi
    simp only [List.getElem_take]
    exact free_above wf srt sf (fun h => vi 1 f ⟨h, .inl rfl⟩) (by omega) (by omega) a x)
  rw [List.take_append_drop, List.length_take, Nat.min_eq_left hle] at e
  exact e.symm

set_option maxRecDepth 100000 in
set_option maxHeartbeats 4000000 in
theorem Count_ok {p : Nat} {M : Mgr} {L : Lay} (f : Nat) (vs : List Nat) (hl : vs.length ≤ 127) (hpos : 0 < vs.length) (hlv : ∀ v, v ∈ vs → v < M.n) (nd : vs.Nodup) (sf : M.stored f) (hf : M.valid (f : Int) = true) (hsup : ∀ v, v ∈ M.supM (f : Int) → v ∈ vs) {dv : Value} {w : World} (R : Rep w p M L) (hn : M.n ≤ 256) (hd : SrcAt w dv 1 vs.length (vs.map natV)) :
    Calls Try.prog 48 #[ptr p, .int .i64 (f : Int), dv] w fun e w' => e = .returned (.tuple #[.int .u64 ((cntL (M.sem f) vs / 2 ^ 64 : Nat) : Int), .int .u64 ((cntL (M.sem f) vs % 2 ^ 64 : Nat) : Int), .int .i64 0]) ∧ Kp No w w' := by
  obtain ⟨i0, hi0, hz0, hz1, hz2⟩ := info_parts info_int
  have CM := Lib.hid (complete_ok (f : Int) vs (by omega) hlv hf R hn hd true ⟨fun _ => ⟨nd, hsup⟩, fun _ => rfl⟩)
  have LVL := Lib.hid (fun (y : World) (ky : Kp No w y) => levels_ok (R.no ky) hn)
  have VAR := Lib.hid (fun (y : World) (ky : Kp No w y) => vars_ok (R.no ky))
  unfold natV at VAR
  have HD : Hid (∀ y, Kp No w y → SrcAt y dv 1 vs.length (vs.map natV)) := Lib.hid (fun y ky => hd.no ky)
  obtain ⟨ao, cp, rfl⟩ := hd.form
  have RR := Lib.hid R
  have LV := Lib.hid hlv
  have hli : (vs.length : Int) ≤ 127 := by omega
  have hmm := @run_makeMap Try.prog
  have SRT := Lib.hid (fun (y : World) (Bs bx gl c : Nat) (sv : Value) (lev : Nat → Nat) (h1 : Bs < y.heap.size) h2 h3 h4 h5 h6 h7 => SortedFunc_ok Bs bx gl M.n c sv lev vs hlv (by omega) (w := y) h1 h2 h3 hpos h4 h5 h6 h7)
  have HN := Lib.hid hn
  obtain ⟨HH, LL, EH, EL, EN⟩ : ∃ HH LL : Nat, cntL (M.sem f) vs / 2 ^ 64 = HH ∧ cntL (M.sem f) vs % 2 ^ 64 = LL ∧ numV (cntL (M.sem f) vs) = .agg #[.int .u64 (HH : Int), .int .u64 (LL : Int)] := ⟨_, _, rfl, rfl, rfl⟩
  rw [EH, EL]
  have ENH := Lib.hid EN
  clear EH EL EN
  go_enter Try.func48, Try.ntmps48
  go_wp2_with fail
  refine CM.out.mono ?_
  rintro e w1 ⟨rfl, k1⟩
  have L1 := Lib.hid (LVL.out w1 k1)
  have K1 := Lib.hid k1
  clear k1 CM LVL
  go_wp2_with fail
  refine L1.out.mono ?_
  rintro e w2 ⟨gl, rfl, r2, k2⟩
  have R2 := Lib.hid r2
  have K2 := Lib.hid (K1.out.trans_no k2)
  clear r2 k2 L1
  go_wp2_with fail
  refine (Values_ok _ _ _ _).mono ?_
  rintro e w3 ⟨rfl, rfl⟩
  go_wp2_with fail
  have h0 : 0 < M.n := by
    cases hvs : vs with
    | nil => rw [hvs] at hpos; simp at hpos
    | cons a l => have := hlv a (by rw [hvs]; exact List.mem_cons_self); omega
  have kx : Kp No w2 ((w2.alloc (.cells #[.slice (some ⟨gl, 0, none⟩) M.n M.n] 33)).alloc (.cells #[.slice ao vs.length cp] 33)) := (Kp.alloc _).trans_no (Kp.alloc _)
  have r3 := ownsRow_kp R2.out kx (fun _ _ z => z)
  obtain ⟨gl', cl', hvl, _, _, _, hcl, _⟩ := ownsRow_open r3 h0
  cases hvl
  have SC := Lib.hid (SRT.out ((w2.alloc (.cells #[.slice (some ⟨gl, 0, none⟩) M.n M.n] 33)).alloc (.cells #[.slice ao vs.length cp] 33)) (w2.heap.size + 1) w2.heap.size gl M.n (.slice ao vs.length cp) M.lev (by simp) (by
      have := heap_alloc_new (w2.alloc (.cells #[.slice (some ⟨gl, 0, none⟩) M.n M.n] 33)) (.cells #[.slice ao vs.length cp] 33)
      rw [World.size_alloc] at this
      rw [cell_of_row _ _ _ _ _ _ this]; rfl) (HD.out _ (K2.out.trans_no kx)) (by simp; omega) (r3.lt gl rfl).2 (by
      have : ((w2.alloc (.cells #[.slice (some ⟨gl, 0, none⟩) M.n M.n] 33)).alloc (.cells #[.slice ao vs.length cp] 33)).heap[w2.heap.size]? = some (.cells #[.slice (some ⟨gl, 0, none⟩) M.n M.n] 33 (0, 0)) := by
        rw [(Kp.alloc (w := w2.alloc (.cells #[.slice (some ⟨gl, 0, none⟩) M.n M.n] 33)) (.cells #[.slice ao vs.length cp] 33)).block _ (by simp) (fun z => z)]
        exact heap_alloc_new _ _
      rw [cell_of_row _ _ _ _ _ _ this]; rfl) (fun v hv => hcl v _ (by rw [List.getElem?_map, List.getElem?_range hv]; rfl)))
  have KX := Lib.hid (K2.out.trans_no kx)
  clear kx r3 hcl SRT R2 K2 K1
  refine SC.out.mono ?_
  rintro e w4 ⟨a4, c4, ss, rfl, perm, pw, r4, k4⟩
  have K4 := Lib.hid (KX.out.trans_no k4)
  have hsl : ss.length = vs.length := perm.length_eq
  have ndS : ss.Nodup := perm.nodup_iff.2 nd
  have SRTD : Hid (Srt M ss) := Lib.hid ((pw.and ndS).imp_of_mem (fun {x y} hx hy h => by
    have h3 : M.lev x ≠ M.lev y := fun e => h.2 (Mgr.lev_inj RR.out.wf (LV.out _ (perm.mem_iff.1 hx)) (LV.out _ (perm.mem_iff.1 hy)) e)
    have := h.1; omega))
  have PERM := Lib.hid perm
  have NDS := Lib.hid ndS
  rw [← hsl] at r4
  have S4 : Hid (∀ y, Kp No w4 y → SrcAt y (.slice a4 vs.length c4) 1 ss.length (ss.map natV)) := Lib.hid (fun y ky => by rw [← hsl]; exact (SrcAt.of_row r4).no ky)
  have V4 := Lib.hid (VAR.out w4 K4.out)
  obtain ⟨w5, hmk, q1, q2⟩ := run_make_full (P := Try.prog) w4 w4.heap.size 33 3 i0 _ 1 Try.underlying33 hi0 hz0 hz1 .i64 .i64 M.n (by rw [hz2]; omega) (by rw [maxLen_val]; omega) (Nat.le_refl _)
  rw [made_zero, ← posRow_zero M.n ss] at q1
  have k5 : Kp No w4 w5 := (Kp.grown q2).mono (fun k _ e => by cases e)
  have hs5 : w4.heap.size < w5.heap.size := (q1.lt _ rfl).2
  have JA : Hid (CqR w4 p (w5.heap.size + 1) w5.heap.size w4.heap.size M.n ss ss.length (.int .i64 0) ((w5.alloc (.map #[] 0)).alloc (.cells (cnCells p w4.heap.size M.n M.n ss.length w5.heap.size) 150))) := Lib.hid ⟨0, by omega, rfl, by
    refine ⟨?_, ?_, ?_, (k5.trans_no (Kp.alloc _)).trans_no (Kp.alloc _)⟩
    · have := heap_alloc_new (w5.alloc (.map #[] 0)) (.cells (cnCells p w4.heap.size M.n M.n ss.length w5.heap.size) 150)
      simpa using this
    · rw [Below.heap_alloc _ _ _ (by simp)]; exact heap_alloc_new _ _
    · exact ownsRow_kp q1 ((Kp.alloc _).trans_no (Kp.alloc _)) (fun _ _ z => z)⟩
  clear perm pw r4 k4 ndS SC KX q1 q2 VAR
  go_wp2_with fail
  refine V4.out.mono ?_
  rintro e w' ⟨rfl, rfl⟩
  clear V4
  rw [hsl] at JA
  unfold cnCells at JA
  go_wp2_with fail
  go_loopg [40] ss.length (fun gk s x => CqR w4 p (w5.heap.size + 1) w5.heap.size w4.heap.size M.n ss gk s x)
  case atStart => rw [hsl]; exact JA.out
  case round =>
    clear JA
    obtain ⟨i, hi, rfl, j⟩ := hrel
    by_cases hlt : i < ss.length
    · obtain ⟨g1, o1, c1, hv1, _, hcell⟩ := (S4.out wr j.kp).cellAt (by omega)
      have hv2 : a4 = some ⟨g1, o1, none⟩ := by injection hv1
      subst hv2
      have hc := hcell i (natV ss[i]) (by simp [hlt])
      unfold natV at hc
      have hvn : ss[i] < M.n := LV.out _ (PERM.out.mem_iff.1 (List.getElem_mem hlt))
      obtain ⟨_, _, hv3, _, _, _, hcr, hzr⟩ := ownsRow_open j.row (by omega)
      cases hv3
      have hlen : ss[i] < (posRow M.n ss i).length := by unfold posRow; simp; exact hvn
      have co := hcr ss[i] (posRow M.n ss i)[ss[i]] (List.getElem?_eq_getElem hlen)
      have cz := hzr ss[i]
      have q1 : wr.cell? ⟨w5.heap.size + 1, 1, none⟩ = some (.slice (some ⟨w4.heap.size, 0, none⟩) M.n M.n) := by rw [cell_of_row _ _ _ _ _ _ j.str]; rfl
      have lq := heap_lt j.str
      have lg := (j.row.lt w4.heap.size rfl).2
      have HI := Lib.hid hi
      have JN : Hid (CqR w4 p (w5.heap.size + 1) w5.heap.size w4.heap.size M.n ss (ss.length - (i + 1)) (.int .i64 ((i + 1 : Nat) : Int)) (wr.setCell ⟨w4.heap.size, ss[i], none⟩ (natV i))) := Lib.hid ⟨i + 1, by omega, rfl, by
        refine ⟨?_, ?_, ?_, j.kp.trans (A' := fun z => z = w4.heap.size) (fun z e => .inr (by omega)) ((Kp.setCell _ _).mono (fun _ _ e => e))⟩
        · rw [Below.heap_setCell _ _ _ _ (by show w5.heap.size + 1 ≠ w4.heap.size; omega)]; exact j.str
        · rw [Below.heap_setCell _ _ _ _ (by show w5.heap.size ≠ w4.heap.size; omega)]; exact j.mp
        · have := ownsRow_put j.row ss[i] (natV i)
          rw [posRow_set NDS.out hlt] at this
          exact this⟩
      unfold natV at JN
      generalize (posRow M.n ss i)[ss[i]] = old at *
      have hlti : (i : Int) < vs.length := by omega
      have hvi : (ss[i] : Int) < (M.n : Int) := by omega
      clear hcell hv1 hi j hcr hzr hlen hvn
      generalize ss[i] = y at *
      go_wp2_with fail
      go_roundg (ss.length - (i + 1))
      case measure => have := HI.out; omega
      case rel => exact JN.out
    · obtain rfl : i = ss.length := by omega
      have hge : ¬ (vs.length : Int) < vs.length := by omega
      have wf := RR.out.wf
      have vi : VarsIn M ss f := vars_in wf sf hf (fun v hv => PERM.out.mem_iff.2 (hsup v hv))
      have hws : w.heap.size ≤ w4.heap.size := K4.out.size
      have CS : Hid (CtS wr p L (w5.heap.size + 1) w5.heap.size w4.heap.size M.n M.n M ss wr) := Lib.hid ⟨RR.out.no (K4.out.trans_no j.kp), Kp.refl _ _, j.str, ⟨(j.row.lt w4.heap.size rfl).2, fun v hv => by
        obtain ⟨_, _, hv3, _, _, _, hcr, _⟩ := ownsRow_open j.row h0
        cases hv3
        refine hcr v _ ?_
        unfold posRow
        rw [List.getElem?_map, List.getElem?_range (LV.out _ (PERM.out.mem_iff.1 hv)), List.take_length]
        simp only [Option.map_some, hv, if_true]; rfl⟩, ⟨fun _ => none, ⟨#[], 0, j.mp, [], by simp, fun k => rfl⟩, fun x N h => by cases h⟩, by omega, fun h => by have := RR.out.lt _ h; omega⟩
      have CO := Lib.hid (count_ok SRTD.out (by omega) (fun v hv => LV.out _ (PERM.out.mem_iff.1 hv)) (M.n + 1) f wr CS.out sf vi (by omega))
      have PO := Lib.hid (fun (y : World) (t : CtS wr p L (w5.heap.size + 1) w5.heap.size w4.heap.size M.n M.n M ss y) => place_ok f t sf (fun v hv => LV.out _ (PERM.out.mem_iff.1 hv)) (fun h => vi 1 f ⟨h, .inl rfl⟩))
      obtain ⟨hle, hall⟩ := cnM_all wf SRTD.out sf vi
      have hlt2 : cntL (M.sem f) ss < 2 ^ 128 := Nat.lt_of_le_of_lt (cntL_le ss (M.sem f)) (Nat.pow_lt_pow_right (by decide) (by omega))
      have SH := Lib.hid (fun (y : World) => shift_ok (cnM M ss f) (plc M ss f) (by omega) (by rw [hall]; exact hlt2) y)
      rw [hall, cntL_perm PERM.out] at SH
      have KJ := Lib.hid (K4.out.trans_no j.kp)
      have LB : Hid (w.heap.size ≤ w5.heap.size) := Lib.hid (by omega)
      have hge : ¬ (vs.length : Int) < vs.length := by omega
      rw [ENH.out] at SH
      clear hall hlt2 hle vi wf hi j
      rw [hsl]
      go_wp2_with fail
      refine CO.out.mono ?_
      rintro e w6 ⟨rfl, t6⟩
      have T6 := Lib.hid t6
      clear t6 CO
      go_wp2_with fail
      refine (PO.out w6 T6.out).mono ?_
      rintro e w7 ⟨rfl, k7⟩
      have T7 := Lib.hid (T6.out.no k7)
      clear k7 PO T6
      go_wp2_with fail
      refine (SH.out w7).mono ?_
      rintro e w8 ⟨rfl, k8⟩
      have KF : Hid (Kp No w w8) := Lib.hid ((KJ.out.trans (A' := fun z => z = w5.heap.size) (fun z e => .inr (by have := LB.out; omega)) T7.out.kp).trans_no k8)
      clear k8 SH T7
      go_upto_region 14 with fail
      go_region
      go_wp2_with fail
      refine bodyPost_ret (v := .tuple #[.int .u64 (HH : Int), .int .u64 (LL : Int), .int .i64 0]) (by simp [results, Try.results48, go_sem]) rfl ⟨rfl, (KF.out.trans_no (Kp.alloc _)).trans_no (Kp.drewN 1)⟩

end Go.Proofs.Ytngbodmooddjbaa
