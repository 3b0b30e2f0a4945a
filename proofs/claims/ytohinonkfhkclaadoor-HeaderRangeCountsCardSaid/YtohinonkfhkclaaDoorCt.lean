/-
  Walks: the counter of the package quant.
-/
import Derived.Test.YtohinonkfhkclaaDoorCn
import Derived.Test.YtohinonkfhkclaaDoorNb
import Derived.Deep.RegionHeld3
namespace Go.Proofs.YtohinonkfhkclaaDoor
open Go.RowKit

def cnCells (p gt n ct tot bs : Nat) : Array Value := #[ptr p, .slice (some ⟨gt, 0, none⟩) n ct, .int .i64 (tot : Int), .map (some bs)]
/-- The state while a counter counts. -/
structure CtS (w0 : World) (p : Nat) (L : Lay) (br bs gt n ct : Nat) (M : Mgr) (ss : List Nat) (w : World) : Prop where
  rep : Rep w p M L
  kp : Kp (fun z => z = bs) w0 w
  str : w.heap[br]? = some (.cells (cnCells p gt n ct ss.length bs) 143 (0, 0))
  pos : gt < w.heap.size ∧ ∀ v, v ∈ ss → w.cell? ⟨gt, v, none⟩ = some (.int .i64 (ss.idxOf v : Int))
  memo : ∃ K : Int → Option Nat, MapAs w bs intV numV K ∧ ∀ x N, K x = some N → ∃ f : Nat, x = (f : Int) ∧ N = cnM M ss f
  ne : bs ≠ gt ∧ ¬ L.at p bs
section
variable {w0 w w' : World} {p br bs gt n ct : Nat} {L : Lay} {M : Mgr} {ss : List Nat}
theorem CtS.no (s : CtS w0 p L br bs gt n ct M ss w) (k : Kp No w w') : CtS w0 p L br bs gt n ct M ss w' := by
  refine ⟨s.rep.no k, s.kp.trans_no k, by rw [k.block _ (heap_lt s.str) (fun z => z)]; exact s.str, ⟨Nat.lt_of_lt_of_le s.pos.1 k.size, fun v hv => ?_⟩, ?_, s.ne⟩
  · have h := s.pos.2 v hv
    simp only [World.cell?] at h ⊢
    rw [k.block gt s.pos.1 (fun z => z)]; exact h
  · obtain ⟨K, m, sn⟩ := s.memo
    exact ⟨K, m.kp k (fun z => z), sn⟩
theorem CtS.here (s : CtS w0 p L br bs gt n ct M ss w) : CtS w p L br bs gt n ct M ss w := ⟨s.rep, Kp.refl _ _, s.str, s.pos, s.memo, s.ne⟩
theorem CtS.trans {wA : World} (s : CtS w0 p L br bs gt n ct M ss wA) (t : CtS wA p L br bs gt n ct M ss w) : CtS w0 p L br bs gt n ct M ss w :=
  ⟨t.rep, s.kp.trans (A' := fun z => z = bs) (fun _ h => .inl h) t.kp, t.str, t.pos, t.memo, t.ne⟩
theorem CtS.q (s : CtS w0 p L br bs gt n ct M ss w) : (w.cell? ⟨br, 0, none⟩ = some (ptr p) ∧ w.cell? ⟨br, 1, none⟩ = some (.slice (some ⟨gt, 0, none⟩) n ct) ∧ w.cell? ⟨br, 2, none⟩ = some (.int .i64 (ss.length : Int)) ∧ w.cell? ⟨br, 3, none⟩ = some (.map (some bs))) ∧ br < w.heap.size :=
  ⟨⟨by rw [cell_of_row _ _ _ _ _ _ s.str]; rfl, by rw [cell_of_row _ _ _ _ _ _ s.str]; rfl, by rw [cell_of_row _ _ _ _ _ _ s.str]; rfl, by rw [cell_of_row _ _ _ _ _ _ s.str]; rfl⟩, heap_lt s.str⟩
theorem CtS.upd (s : CtS w0 p L br bs gt n ct M ss w) (hb : bs ≠ br) (k : Kp (fun z => z = bs) w w') (memo : ∃ K : Int → Option Nat, MapAs w' bs intV numV K ∧ ∀ x N, K x = some N → ∃ f : Nat, x = (f : Int) ∧ N = cnM M ss f) : CtS w0 p L br bs gt n ct M ss w' := by
  refine ⟨s.rep.kp k (fun z hz => by rw [hz]; exact s.ne.2), s.kp.trans (A' := fun z => z = bs) (fun _ h => .inl h) k, by rw [k.block _ (heap_lt s.str) (fun z => hb z.symm)]; exact s.str, ⟨Nat.lt_of_lt_of_le s.pos.1 k.size, fun v hv => ?_⟩, memo, s.ne⟩
  have h := s.pos.2 v hv
  simp only [World.cell?] at h ⊢
  rw [k.block gt s.pos.1 (fun z => s.ne.1 z.symm)]; exact h
theorem CtS.own {b : Nat} (s : CtS w0 p L br bs gt n ct M ss w) (h : w0.heap.size ≤ b) (h1 : b ≠ br) (h2 : b ≠ gt) (h3 : b ≠ bs) (h4 : ¬ L.at p b) (k : Kp (fun z => z = b) w w') : CtS w0 p L br bs gt n ct M ss w' := by
  refine ⟨s.rep.kp k (fun z hz => by rw [hz]; exact h4), s.kp.trans (A' := fun z => z = b) (fun z hz => .inr (by rw [hz]; exact h)) k, by rw [k.block _ (heap_lt s.str) (fun z => h1 z.symm)]; exact s.str, ⟨Nat.lt_of_lt_of_le s.pos.1 k.size, fun v hv => ?_⟩, ?_, s.ne⟩
  · have hc := s.pos.2 v hv
    simp only [World.cell?] at hc ⊢
    rw [k.block gt s.pos.1 (fun z => h2 z.symm)]; exact hc
  · obtain ⟨K, m, sn⟩ := s.memo
    exact ⟨K, m.kp k (fun z => h3 z.symm), sn⟩
theorem CtS.neb (s : CtS w0 p L br bs gt n ct M ss w) : bs ≠ br := fun e => by
  obtain ⟨K, ⟨es, clock, hb, _⟩, _⟩ := s.memo
  rw [e, s.str] at hb; simp at hb

set_option maxRecDepth 100000 in
set_option maxHeartbeats 1000000 in
theorem place_ok (f : Nat) (s : CtS w0 p L br bs gt n ct M ss w) (sf : M.stored f) (hn : ∀ v, v ∈ ss → v < n) (hm : 2 ≤ f → (M.nd f).1.toNat ∈ ss) :
    Calls Tryd.prog 89 #[ptr br, .int .i64 (f : Int)] w fun e w' => e = .returned (.int .i64 (plc M ss f : Int)) ∧ Kp No w w' := by
  have ND := Lib.hid (Node_ok f s.rep sf)
  have ST := Lib.hid (fun (y : World) (ky : Kp No w y) => s.no ky)
  obtain ⟨⟨q0, q1, q2, q3⟩, ql⟩ := s.q
  by_cases h2 : f < 2
  · have hnd : (M.nd f).1 = -1 := by
      have : f = 0 ∨ f = 1 := by omega
      rcases this with rfl | rfl
      · rw [s.rep.wf.nd0]
      · rw [s.rep.wf.nd1]
    have ep : plc M ss f = ss.length := by unfold plc; rw [if_pos h2]
    rw [hnd] at ND
    rw [ep]
    clear s hnd h2 hm ep
    go_enter Tryd.func89, Tryd.ntmps89
    go_wp2_with fail
    refine ND.out.mono ?_
    rintro e w1 ⟨rfl, k1⟩
    obtain ⟨⟨d0, d1, d2, d3⟩, dl⟩ := (ST.out w1 k1).q
    have K1 := Lib.hid k1
    clear k1 ND q0 q1 q2 q3 ql
    go_wp2_with fail
    go_ret
    exact ⟨rfl, K1.out⟩
  · obtain ⟨v0, v1, _⟩ := Mgr.node_of s.rep.wf sf (by omega)
    have hmem := hm (by omega)
    have ep : plc M ss f = ss.idxOf (M.nd f).1.toNat := by unfold plc; rw [if_neg h2]
    rw [ep]
    obtain ⟨v, hv⟩ := Int.eq_ofNat_of_zero_le v0
    have hvt : (M.nd f).1.toNat = v := by omega
    rw [hvt] at hmem ⊢
    have hvn := hn v hmem
    have hvi : (v : Int) < (n : Int) := by omega
    have CELL := Lib.hid (fun (y : World) (ky : Kp No w y) => ((s.no ky).pos.2 v hmem))
    rw [hv] at ND
    clear s h2 hm ep v0 v1 hv hvt
    generalize ss.idxOf v = ix at *
    go_enter Tryd.func89, Tryd.ntmps89
    go_wp2_with fail
    refine ND.out.mono ?_
    rintro e w1 ⟨rfl, k1⟩
    obtain ⟨⟨d0, d1, d2, d3⟩, dl⟩ := (ST.out w1 k1).q
    have cx := CELL.out w1 k1
    have K1 := Lib.hid k1
    clear k1 ND q0 q1 q2 q3 ql
    go_wp2_with fail
    go_ret
    exact ⟨rfl, K1.out⟩
end

theorem zero2 {w : World} {b : Nat} {t : TypeId} {x y : Value} (h : w.heap[b]? = some (.cells #[x, y] t (0, 0))) : w.cell? ⟨b, 0, none⟩ = some x ∧ w.cell? ⟨b, 1, none⟩ = some y ∧ (∀ j, w.frozen? ⟨b, j, none⟩ = false) ∧ b < w.heap.size :=
  ⟨by rw [cell_of_row _ _ _ _ _ _ h]; rfl, by rw [cell_of_row _ _ _ _ _ _ h]; rfl, fun j => by simp [World.frozen?, h], heap_lt h⟩
def CPost (w : World) (p : Nat) (L : Lay) (br bs gt n ct : Nat) (M : Mgr) (ss : List Nat) (f : Nat) (e : Ending) (w' : World) : Prop := e = .returned (numV (cnM M ss f)) ∧ CtS w p L br bs gt n ct M ss w'
theorem zeroNum (w : World) : (zeroValue 145).run Tryd.prog w = .ok (numV 0) w := by kernel_rfl
theorem cnM_le (M : Mgr) (ss : List Nat) (f : Nat) : cnM M ss f ≤ 2 ^ (ss.length - plc M ss f) := by
  unfold cnM
  have := cntL_le (ss.drop (plc M ss f)) (M.sem f)
  rwa [List.length_drop] at this

set_option maxRecDepth 100000 in
set_option maxHeartbeats 4000000 in
theorem count_step {k p br bs gt n ct : Nat} {L : Lay} {M : Mgr} {ss : List Nat} (srt : Srt M ss) (hss : ss.length ≤ 127) (hn : ∀ v, v ∈ ss → v < n)
    (ih : ∀ (f : Nat) (w : World) (j : Nat), j < k → CtS w p L br bs gt n ct M ss w → M.stored f → VarsIn M ss f → M.n < j + M.depth f → Calls Tryd.prog 87 #[ptr br, .int .i64 (f : Int)] w (CPost w p L br bs gt n ct M ss f))
    (f : Nat) {w : World} (s : CtS w p L br bs gt n ct M ss w) (sf : M.stored f) (vi : VarsIn M ss f) (df : M.n < k + M.depth f) :
    Calls Tryd.prog 87 #[ptr br, .int .i64 (f : Int)] w (CPost w p L br bs gt n ct M ss f) := by
  have IH := Lib.hid ih
  clear ih
  have S0 := Lib.hid s
  have SA := Lib.hid (s.no (Kp.alloc (.cells #[.int .u64 0, .int .u64 0] 145)))
  by_cases h2 : f < 2
  · have hcn : cnM M ss f = f := by
      unfold cnM plc
      rw [if_pos h2, List.drop_length]
      simp only [cntL]
      rw [M.sem_const _ _ h2]
      have : f = 0 ∨ f = 1 := by omega
      rcases this with rfl | rfl <;> rfl
    have RET := Lib.hid (show ∀ y, Kp No w y → CPost w p L br bs gt n ct M ss f (.returned (numV f)) y from fun y ky => ⟨by rw [hcn], S0.out.no ky⟩)
    clear hcn S0 SA s sf vi df IH
    have : f = 0 ∨ f = 1 := by omega
    rcases this with rfl | rfl
    · go_enter Tryd.func87, Tryd.ntmps87
      go_wp2_with fail
      refine bodyPost_ret (v := numV 0) (by simp [results, Tryd.results87, go_sem, numV]) rfl (RET.out _ (Kp.alloc _))
    · go_enter Tryd.func87, Tryd.ntmps87
      go_wp2_with fail
      refine bodyPost_ret (v := numV 1) (by simp [results, Tryd.results87, go_sem, numV]) rfl (RET.out _ (Kp.alloc _))
  have hf2 : 2 ≤ f := by omega
  have WF := Lib.hid s.rep.wf
  obtain ⟨v0, v1, sl, sh, _, dl, dh⟩ := Mgr.node_of WF.out sf hf2
  have hdf : M.depth f = M.lev (M.nd f).1.toNat := by unfold Mgr.depth; rw [if_neg (by omega)]
  have hvl : VarsIn M ss (M.nd f).2.1 := fun j g hr => vi (j + 1) g ⟨hf2, .inr (.inl hr)⟩
  have hvh : VarsIn M ss (M.nd f).2.2 := fun j g hr => vi (j + 1) g ⟨hf2, .inr (.inr hr)⟩
  have top : ∀ g, VarsIn M ss g → 2 ≤ g → (M.nd g).1.toNat ∈ ss := fun g hg h => hg 1 g ⟨h, .inl rfl⟩
  have hmf := top f vi hf2
  obtain ⟨⟨a0, b0⟩, ⟨a1, b1⟩, hsum⟩ := cnM_node WF.out srt sf hf2 hmf (top _ hvl) (top _ hvh)
  have c0 := cnM_le M ss (M.nd f).2.1
  have c1 := cnM_le M ss (M.nd f).2.2
  have pf : plc M ss f = ss.idxOf (M.nd f).1.toNat := by unfold plc; rw [if_neg h2]
  have hk : 0 < k := by have := M.depth_le WF.out sf; omega
  have PL := Lib.hid (fun (y : World) (t : CtS w p L br bs gt n ct M ss y) => place_ok (M.nd f).2.1 t sl hn (top _ hvl))
  have PH := Lib.hid (fun (y : World) (t : CtS w p L br bs gt n ct M ss y) => place_ok (M.nd f).2.2 t sh hn (top _ hvh))
  have IL := Lib.hid (fun (y : World) (t : CtS w p L br bs gt n ct M ss y) => IH.out (M.nd f).2.1 y (k - 1) (by omega) t.here sl hvl (by omega))
  have IR := Lib.hid (fun (y : World) (t : CtS w p L br bs gt n ct M ss y) => IH.out (M.nd f).2.2 y (k - 1) (by omega) t.here sh hvh (by omega))
  have ND := Lib.hid (fun (y : World) (ky : Kp No w y) => Node_ok f (s.rep.no ky) sf)
  obtain ⟨v, hv⟩ := Int.eq_ofNat_of_zero_le v0
  have hvt : (M.nd f).1.toNat = v := by omega
  rw [hvt] at hmf pf
  rw [hv] at ND
  have hvn := hn v hmf
  have hvi : (v : Int) < (n : Int) := by omega
  have hv00 : (0 : Int) ≤ (v : Int) := by omega
  have HM := Lib.hid hmf
  rw [pf] at a0 a1 hsum
  generalize (M.nd f).2.1 = lo at *
  generalize (M.nd f).2.2 = hi at *
  obtain ⟨P0, hP0⟩ : ∃ x, plc M ss lo = x := ⟨_, rfl⟩
  obtain ⟨P1, hP1⟩ : ∃ x, plc M ss hi = x := ⟨_, rfl⟩
  obtain ⟨i, hi0⟩ : ∃ x, ss.idxOf v = x := ⟨_, rfl⟩
  rw [hP0] at PL a0 b0 c0 hsum
  rw [hP1] at PH a1 b1 c1 hsum
  rw [hi0] at a0 a1 hsum
  have pw : ∀ a b c m : Nat, c ≤ 2 ^ (m - a) → b ≤ a → a ≤ m → m ≤ 127 → 1 ≤ b → c * 2 ^ (a - b) ≤ 2 ^ 126 := fun a b c m h1 h2 h3 h4 h5 => by
    have e := Nat.mul_le_mul_right (2 ^ (a - b)) h1
    rw [← Nat.pow_add] at e
    exact Nat.le_trans e (Nat.pow_le_pow_right (by decide) (by omega))
  have q0 := pw P0 (i + 1) _ ss.length c0 a0 b0 hss (by omega)
  have q1 := pw P1 (i + 1) _ ss.length c1 a1 b1 hss (by omega)
  have e126 : (2 : Nat) ^ 128 = 2 ^ 126 * 4 := by decide
  have p126 : 0 < (2 : Nat) ^ 126 := by decide
  have SH0 := Lib.hid (fun (y : World) => shift_ok (cnM M ss lo) (P0 - (i + 1)) (by omega) (by omega) y)
  have SH1 := Lib.hid (fun (y : World) => shift_ok (cnM M ss hi) (P1 - (i + 1)) (by omega) (by omega) y)
  have AD := Lib.hid (fun (y : World) => add_ok (cnM M ss lo * 2 ^ (P0 - (i + 1))) (cnM M ss hi * 2 ^ (P1 - (i + 1))) (by omega) y)
  rw [← hsum] at AD
  have e0 : (P0 : Int) - ((i : Int) + 1) = ((P0 - (i + 1) : Nat) : Int) := by omega
  have e1 : (P1 : Int) - ((i : Int) + 1) = ((P1 - (i + 1) : Nat) : Int) := by omega
  have hP0i : (P0 : Int) ≤ 127 := by omega
  have hP1i : (P1 : Int) ≤ 127 := by omega
  have hii : (i : Int) ≤ 127 := by omega
  obtain ⟨HH, LL, EN⟩ : ∃ HH LL : Nat, numV (cnM M ss f) = .agg #[.int .u64 (HH : Int), .int .u64 (LL : Int)] := ⟨_, _, rfl⟩
  rw [EN] at AD
  have ENH := Lib.hid EN
  clear EN
  have E0 := Lib.hid e0
  have E1 := Lib.hid e1
  have I0 := Lib.hid hi0
  have BS := Lib.hid s.neb
  obtain ⟨K, hmap, hsnd⟩ := S0.out.memo
  have hbs := hmap.lt
  have BZ : Hid (∀ y, Kp (fun z => z = bs) (w.alloc (.cells #[.int .u64 0, .int .u64 0] 145)) y → y.heap[w.heap.size]? = some (.cells #[.int .u64 0, .int .u64 0] 145 (0, 0))) := Lib.hid (fun y ky => by
    rw [ky.block _ (by simp) (fun e => by omega)]; exact heap_alloc_new _ _)
  have LK : Hid (∀ (W : World), Kp No w W → (Instr.lookup 141 (.map (some bs)) (.int .i64 f) true).run Tryd.prog W = .ok (.tuple #[(((K (f : Int)).map numV).getD (numV 0)), .bool (K (f : Int)).isSome]) W) := Lib.hid (fun W kp =>
    (hmap.kp kp (fun x => x)).lookup keyRef Tryd.underlying141 zeroNum (f : Int) true)
  have fz : ((f : Int) == 0) = false := by simp; omega
  have fo : ((f : Int) == 1) = false := by simp; omega
  have HF := Lib.hid hf2
  clear c0 c1 q0 q1 e126 p126 pw hsum e0 e1 hP0 hP1 hi0 a0 a1 b0 b1 pf hv hvt hmf v0 v1 sl sh dl dh hdf hvl hvh top hk IH s sf vi df hn hss srt h2 hf2
  cases hKf : K (f : Int) with
  | some N =>
    obtain ⟨f', hf', hN⟩ := hsnd _ N hKf
    have : f' = f := by omega
    subst this
    have RET := Lib.hid (show ∀ y, Kp No w y → CPost w p L br bs gt n ct M ss f' (.returned (numV N)) y from fun y ky => ⟨by rw [hN], S0.out.no ky⟩)
    rw [hKf] at LK
    simp only [Option.map_some, Option.getD_some, Option.isSome_some] at LK
    unfold numV at LK
    have lk := LK.out _ (Kp.alloc (.cells #[.int .u64 0, .int .u64 0] 145))
    obtain ⟨⟨d0, d1, d2, d3⟩, dl⟩ := SA.out.q
    clear hmap hsnd hKf hf' hN LK PL PH IL IR SH0 SH1 AD BZ
    go_enter Tryd.func87, Tryd.ntmps87
    go_wp2_with fail
    refine bodyPost_ret (v := numV N) (by simp [results, Tryd.results87, go_sem, numV]) rfl (RET.out _ ((Kp.alloc _).trans_no (Kp.alloc _)))
  | none =>
    rw [hKf] at LK
    simp only [Option.map_none, Option.getD_none, Option.isSome_none] at LK
    unfold numV at LK
    have lk := LK.out _ (Kp.alloc (.cells #[.int .u64 0, .int .u64 0] 145))
    obtain ⟨⟨d0, d1, d2, d3⟩, dl⟩ := SA.out.q
    obtain ⟨⟨g0, g1, g2, g3⟩, gl⟩ := (SA.out.no (Kp.alloc (.cells #[.int .u64 0, .int .u64 0] 145))).q
    clear hmap hsnd hKf LK
    go_enter Tryd.func87, Tryd.ntmps87
    go_wp2_with fail
    refine (ND.out _ ((Kp.alloc _).trans_no (Kp.alloc _))).mono ?_
    rintro e w1 ⟨rfl, k1⟩
    have S1 := Lib.hid (S0.out.no (((Kp.alloc _).trans_no (Kp.alloc _)).trans_no k1))
    have Z1 := Lib.hid (BZ.out _ ((Kp.alloc _).trans_no k1).of_no)
    have K1 : Hid (Kp (fun z => z = bs) (w.alloc (.cells #[.int .u64 0, .int .u64 0] 145)) w1) := Lib.hid ((Kp.alloc _).trans_no k1).of_no
    clear k1 ND lk d0 d1 d2 d3 dl SA g0 g1 g2 g3 gl
    obtain ⟨⟨d0, d1, d2, d3⟩, dl⟩ := S1.out.q
    have cx := S1.out.pos.2 v HM.out
    rw [I0.out] at cx
    go_wp2_with fail
    refine (IL.out w1 S1.out).mono ?_
    rintro e w2 ⟨rfl, t2⟩
    have S2 := Lib.hid (S1.out.trans t2)
    have K2 := Lib.hid (K1.out.trans (A' := fun z => z = bs) (fun _ h => .inl h) t2.kp)
    clear t2 S1 K1 Z1 d0 d1 d2 d3 dl cx
    go_wp2_with fail
    refine (PL.out w2 S2.out).mono ?_
    rintro e w3 ⟨rfl, k3⟩
    have S3 := Lib.hid (S2.out.no k3)
    have K3 := Lib.hid (K2.out.trans_no k3)
    clear k3 S2 K2
    go_wp2_with fail
    rw [E0.out]
    refine (SH0.out w3).mono ?_
    rintro e w4 ⟨rfl, k4⟩
    have S4 := Lib.hid (S3.out.no k4)
    have K4 := Lib.hid (K3.out.trans_no k4)
    clear k4 S3 K3
    go_wp2_with fail
    refine (IR.out w4 S4.out).mono ?_
    rintro e w5 ⟨rfl, t5⟩
    have S5 := Lib.hid (S4.out.trans t5)
    have K5 := Lib.hid (K4.out.trans (A' := fun z => z = bs) (fun _ h => .inl h) t5.kp)
    clear t5 S4 K4
    go_wp2_with fail
    refine (PH.out w5 S5.out).mono ?_
    rintro e w6 ⟨rfl, k6⟩
    have S6 := Lib.hid (S5.out.no k6)
    have K6 := Lib.hid (K5.out.trans_no k6)
    clear k6 S5 K5
    go_wp2_with fail
    rw [E1.out]
    refine (SH1.out w6).mono ?_
    rintro e w7 ⟨rfl, k7⟩
    have S7 := Lib.hid (S6.out.no k7)
    have K7 := Lib.hid (K6.out.trans_no k7)
    clear k7 S6 K6
    go_wp2_with fail
    refine (AD.out w7).mono ?_
    rintro e w8 ⟨rfl, k8⟩
    have S8 := Lib.hid ((S7.out.no k8).no (Kp.alloc (.cells #[.int .u64 (HH : Int), .int .u64 (LL : Int)] 145)))
    have K8 := Lib.hid ((K7.out.trans_no k8).trans_no (Kp.alloc (.cells #[.int .u64 (HH : Int), .int .u64 (LL : Int)] 145)))
    have Z8 := Lib.hid (heap_alloc_new w8 (.cells #[.int .u64 (HH : Int), .int .u64 (LL : Int)] 145))
    have N8 : Hid (bs < w8.heap.size ∧ w.heap.size < w8.heap.size) := Lib.hid (by have h1 := (K7.out.trans_no k8).size; simp at h1; omega)
    clear k8 S7 K7 AD SH0 SH1 IL IR PL PH
    go_upto_region 9 with fail
    generalize w8.alloc (.cells #[.int .u64 (HH : Int), .int .u64 (LL : Int)] 145) = w9 at *
    obtain ⟨b9, hb9⟩ : ∃ x, w8.heap.size = x := ⟨_, rfl⟩
    rw [hb9] at Z8 N8 ⊢
    clear hb9
    obtain ⟨⟨d0, d1, d2, d3⟩, dl⟩ := S8.out.q
    obtain ⟨c0, c1, _, cl⟩ := zero2 Z8.out
    obtain ⟨K9, m9, sn9⟩ := S8.out.memo
    obtain ⟨w10, hup, hm10, hk10, _⟩ := m9.update keyRef Tryd.underlying141 (f : Int) (cnM M ss f)
    rw [ENH.out] at hup
    have up : (Instr.mapUpdate 141 (.map (some bs)) (.int .i64 f) (.agg #[.int .u64 (HH : Int), .int .u64 (LL : Int)])).run Tryd.prog w9.drew = .ok () (w10.drewN 1) := hup 1
    clear hup
    have S10 : Hid (CtS w p L br bs gt n ct M ss (w10.drewN 1)) := Lib.hid ((S8.out.upd BS.out hk10 ⟨_, hm10, fun y N hs => by
      split at hs
      · rename_i hy
        cases hs
        exact ⟨f, hy, rfl⟩
      · exact sn9 y N hs⟩).no (Kp.drewN 1))
    have Z10 := Lib.hid (zero2 (BZ.out _ ((K8.out.trans (A' := fun z => z = bs) (fun _ h => .inl h) hk10).trans_no (Kp.drewN 1))))
    have Z11 : Hid ((w10.drewN 1).heap[b9]? = some (.cells #[.int .u64 (HH : Int), .int .u64 (LL : Int)] 145 (0, 0))) := Lib.hid (by
      rw [(hk10.trans_no (Kp.drewN 1)).block _ (heap_lt Z8.out) (fun e => by have := N8.out; omega)]; exact Z8.out)
    clear m9 sn9 hm10 hk10 S8 K8 Z8
    generalize w10.drewN 1 = w11 at *
    go_region
    clear up d0 d1 d2 d3 c0 c1
    obtain ⟨z0, z1, zf, zl⟩ := Z10.out
    obtain ⟨y0, y1, _, yl⟩ := zero2 Z11.out
    have F0 := zf 0
    have F1 := zf 1
    go_wp2_with fail
    refine bodyPost_ret (v := .agg #[.int .u64 (HH : Int), .int .u64 (LL : Int)]) (by simp [results, Tryd.results87, go_sem, z0, z1]) rfl ⟨by rw [ENH.out], S10.out.own (b := w.heap.size) (Nat.le_refl _) (fun e => by have := S0.out.q.2; omega) (fun e => by have := S0.out.pos.1; omega) (fun e => by omega) (fun e => by have := S0.out.rep.lt _ e; omega) ?_⟩
    exact ((Kp.setCell (w := w11) ⟨w.heap.size, 0, none⟩ (.int .u64 (HH : Int))).mono (A' := fun z => z = w.heap.size) (fun _ _ e => e)).trans (A' := fun z => z = w.heap.size) (fun _ h => .inl h) ((Kp.setCell ⟨w.heap.size, 1, none⟩ _).mono (fun _ _ e => e))

theorem count_ok {p br bs gt n ct : Nat} {L : Lay} {M : Mgr} {ss : List Nat} (srt : Srt M ss) (hss : ss.length ≤ 127) (hn : ∀ v, v ∈ ss → v < n) : ∀ (k f : Nat) (w : World), CtS w p L br bs gt n ct M ss w → M.stored f → VarsIn M ss f → M.n < k + M.depth f →
    Calls Tryd.prog 87 #[ptr br, .int .i64 (f : Int)] w (CPost w p L br bs gt n ct M ss f) := by
  intro k
  induction k using Nat.strongRecOn with
  | _ k ih =>
    intro f w s sf vi df
    exact count_step srt hss hn (fun f w j hj s sf vi df => ih j hj f w s sf vi df) f s sf vi df

end Go.Proofs.YtohinonkfhkclaaDoor
