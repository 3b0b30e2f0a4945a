/-
  Walks: the law QuantCountsMany.
-/
import Derived.Test.YtohinonkfhkclaaQw
import Derived.Test.YtohinonkfhkclaaCz
import Derived.Test.YtohinonkfhkclaaCube
namespace Go.Proofs.Ytohinonkfhkclaa
open Go.RowKit

/-! ### plain -/
theorem cntL_all : ∀ (vs : List Nat) {F : Bfn}, (∀ a, F a = true) → cntL F vs = 2 ^ vs.length
  | [], F, h => by unfold cntL; rw [h]; rfl
  | v :: vs, F, h => by
    simp only [cntL, List.length_cons, Nat.pow_succ]
    rw [cntL_all vs (fun a => h _), cntL_all vs (fun a => h _)]; omega
theorem cntL_no : ∀ (vs : List Nat) {F : Bfn}, (∀ a, F a = false) → cntL F vs = 0
  | [], F, h => by unfold cntL; rw [h]; rfl
  | v :: vs, F, h => by
    simp only [cntL]
    rw [cntL_no vs (fun a => h _), cntL_no vs (fun a => h _)]
theorem cntL_fix (x : Nat → Bool) (l2 : List Nat) : ∀ (l1 : List Nat) {F : Bfn}, (l1 ++ l2).Nodup → (∀ a, F a = true ↔ ∀ v, v ∈ l1 → a v = x v) → cntL F (l1 ++ l2) = 2 ^ l2.length
  | [], F, _, h => cntL_all l2 (fun a => (h a).2 (fun v hv => by cases hv))
  | v :: l1, F, nd, h => by
    rw [List.cons_append, List.nodup_cons] at nd
    have hv1 : v ∉ l1 := fun hm => nd.1 (List.mem_append_left _ hm)
    rw [List.cons_append]
    simp only [cntL]
    have one : cntL (fun a => F (Mgr.upd a v (x v))) (l1 ++ l2) = 2 ^ l2.length := cntL_fix x l2 l1 nd.2 (fun a => by
      rw [h]
      constructor
      · intro k u hu
        have := k u (List.mem_cons_of_mem _ hu)
        rw [Mgr.upd_other _ _ _ _ (fun e => hv1 (by rw [← e]; exact hu))] at this
        exact this
      · intro k u hu
        rcases List.mem_cons.1 hu with rfl | hu
        · exact Mgr.upd_same _ _ _
        · rw [Mgr.upd_other _ _ _ _ (fun e => hv1 (by rw [← e]; exact hu))]; exact k u hu)
    have zero : cntL (fun a => F (Mgr.upd a v (!x v))) (l1 ++ l2) = 0 := cntL_no _ (fun a => by
      cases hx : F (Mgr.upd a v (!x v))
      · rfl
      · have := (h _).1 hx v List.mem_cons_self
        rw [Mgr.upd_same] at this
        cases hv : x v <;> rw [hv] at this <;> cases this)
    cases hx : x v <;> rw [hx] at one zero <;> simp only [Bool.not_true, Bool.not_false] at zero <;> omega
/-- The variables and the literals of the law. -/
def qmV (i : Nat) : List Nat := (List.range i).map fun j => 149 - j
def qmS (s j : Nat) : Bool := s.testBit (j % 64)
def qmL (s i : Nat) : List Lit2 := (List.range i).map fun j => (149 - j, qmS s j)
theorem qmV_succ (i : Nat) : qmV (i + 1) = qmV i ++ [149 - i] := by unfold qmV; rw [List.range_succ, List.map_append]; rfl
theorem qmL_succ (s i : Nat) : qmL s (i + 1) = qmL s i ++ [(149 - i, qmS s i)] := by unfold qmL; rw [List.range_succ, List.map_append]; rfl
theorem qmV_len (i : Nat) : (qmV i).length = i := by simp [qmV]
theorem qmV_lt {i v : Nat} (h : v ∈ qmV i) : v < 150 := by
  unfold qmV at h
  obtain ⟨j, _, rfl⟩ := List.mem_map.1 h; omega
theorem qmV_nodup {i : Nat} (h : i ≤ 140) : (qmV i).Nodup := by
  unfold qmV
  rw [List.nodup_iff_pairwise_ne, List.pairwise_map]
  have hr : (List.range i).Nodup := List.nodup_range
  rw [List.nodup_iff_pairwise_ne] at hr
  refine hr.imp_of_mem (fun {x y} hx hy hne => ?_)
  have := List.mem_range.1 hx
  have := List.mem_range.1 hy
  omega
theorem qmV_split {k w : Nat} (h : k ≤ w) : qmV w = qmV k ++ (List.range (w - k)).map fun j => 149 - (k + j) := by
  unfold qmV
  have : List.range w = List.range k ++ (List.range (w - k)).map (fun j => k + j) := by
    rw [← List.range_add, Nat.add_sub_cancel' h]
  rw [this, List.map_append, List.map_map]; rfl
theorem qmL_iff {s k : Nat} (h : k ≤ 140) (a : Nat → Bool) : cubeF (qmL s k) a = true ↔ ∀ v, v ∈ qmV k → a v = qmS s (149 - v) := by
  unfold cubeF qmL qmV
  rw [List.all_eq_true]
  constructor
  · intro hx v hv
    obtain ⟨j, hj, rfl⟩ := List.mem_map.1 hv
    have := hx _ (List.mem_map.2 ⟨j, hj, rfl⟩)
    have hj := List.mem_range.1 hj
    rw [show 149 - (149 - j) = j by omega]
    simpa using this
  · intro hx y hy
    obtain ⟨j, hj, rfl⟩ := List.mem_map.1 hy
    have := hx (149 - j) (List.mem_map.2 ⟨j, hj, rfl⟩)
    have hj := List.mem_range.1 hj
    rw [show 149 - (149 - j) = j by omega] at this
    simp [this]
theorem qm_cnt {s k w : Nat} (h : k ≤ w) (hw : w ≤ 140) : cntL (cubeF (qmL s k)) (qmV w) = 2 ^ (w - k) := by
  have nd := qmV_nodup hw
  rw [qmV_split h] at nd ⊢
  rw [cntL_fix (fun v => qmS s (149 - v)) _ _ nd (fun a => qmL_iff (by omega) a)]
  simp
theorem qm_free {s k w : Nat} (h : k ≤ w) (hw : w ≤ 140) : ∀ v, v < 150 → v ∉ qmV w → ∀ a, cubeF (qmL s k) (Mgr.upd a v false) = cubeF (qmL s k) (Mgr.upd a v true) := fun v _ hn a => by
  rw [Bool.eq_iff_iff, qmL_iff (by omega), qmL_iff (by omega)]
  have hk : ∀ u, u ∈ qmV k → u ≠ v := fun u hu e => hn (by rw [qmV_split h, ← e]; exact List.mem_append_left _ hu)
  constructor
  · intro hx u hu
    have := hx u hu
    rw [Mgr.upd_other _ _ _ _ (hk u hu)] at this ⊢; exact this
  · intro hx u hu
    have := hx u hu
    rw [Mgr.upd_other _ _ _ _ (hk u hu)] at this ⊢; exact this
theorem qm_st (s k : Nat) : PSt 150 (cubeF (qmL s k)) 2 := fun M _ _ => cube_states M _

/-! ### contracts -/
theorem CountA {p n c : Nat} {M : Mgr} {L : Lay} {B : List (Int × Bfn)} {f : Int} {F : Bfn} {w : World} (R : Rep w p M L) (b : Qk n c M B) (hf : (f, F) ∈ B) (hn : n ≤ 256) (h0 : 0 < n) (vs : List Nat) (hl : vs.length ≤ 127) (hlv : ∀ v, v ∈ vs → v < n) (nd : vs.Nodup) (hF : ∀ v, v < n → v ∉ vs → ∀ a, F (Mgr.upd a v false) = F (Mgr.upd a v true)) {dv : Value} (hd : SrcAt w dv 1 vs.length (vs.map natV)) :
    Calls Try.prog 18 #[ptr p, .int .i64 f, dv] w fun e w' => e = .returned (.tuple #[.int .u64 ((cntL F vs / 2 ^ 64 : Nat) : Int), .int .u64 ((cntL F vs % 2 ^ 64 : Nat) : Int), .int .i64 0]) ∧ Kp No w w' := by
  have sup := sup_of b hf hF
  obtain ⟨hv1, hs⟩ := b.at hf
  obtain ⟨k, rfl, sk, _⟩ := Mgr.valid_nat b.wf hv1
  have e : M.sem k = F := funext fun x => by have := hs x; rw [Int.toNat_natCast] at this; exact this
  have := Count_all k vs hl (by rw [b.nn]; exact h0) (fun v hv => by rw [b.nn]; exact hlv v hv) nd sk hv1 sup R (by rw [b.nn]; omega) hd
  rw [e] at this
  exact this
set_option maxRecDepth 100000 in
theorem Count_lim {p n c : Nat} {M : Mgr} {L : Lay} {B : List (Int × Bfn)} {f : Int} {F : Bfn} {w : World} (R : Rep w p M L) (b : Qk n c M B) (hf : (f, F) ∈ B) (hn : n ≤ 256) (vs : List Nat) (hl : 127 < vs.length) (hl2 : vs.length ≤ 1000000) (hlv : ∀ v, v ∈ vs → v < n) (nd : vs.Nodup) (hF : ∀ v, v < n → v ∉ vs → ∀ a, F (Mgr.upd a v false) = F (Mgr.upd a v true)) {dv : Value} (hd : SrcAt w dv 1 vs.length (vs.map natV)) :
    Calls Try.prog 18 #[ptr p, .int .i64 f, dv] w fun e w' => e = .returned (.tuple #[.int .u64 0, .int .u64 0, .int .i64 7]) ∧ Kp No w w' := by
  have sup := sup_of b hf hF
  have CM := Lib.hid (complete_ok f vs hl2 (fun v hv => by rw [b.nn]; exact hlv v hv) (b.at hf).1 R (by rw [b.nn]; omega) hd true ⟨fun _ => ⟨nd, sup⟩, fun _ => rfl⟩)
  obtain ⟨ao, cp, rfl⟩ := hd.form
  have hli : (127 : Int) < vs.length := by omega
  clear R b hf sup hF hd hl
  go_enter Try.func18, Try.ntmps18
  go_wp2_with fail
  refine CM.out.mono ?_
  rintro e w1 ⟨rfl, k1⟩
  have K1 := Lib.hid k1
  clear k1 CM
  go_wp2_with fail
  refine bodyPost_ret (v := .tuple #[.int .u64 0, .int .u64 0, .int .i64 7]) (by simp [results, Try.results18, go_sem]) rfl ⟨rfl, K1.out⟩

theorem bit_val64 {x s : Nat} (hx : x < 18446744073709551616) : bits BinOp.and IntKind.u64 ((x : Int) / 2 ^ s) 1 = if x.testBit s then 1 else 0 := by
  have h : (x : Int) / 2 ^ s = ((x / 2 ^ s : Nat) : Int) := by simp
  have hlt : x / 2 ^ s < 2 ^ 64 := Nat.lt_of_le_of_lt (Nat.div_le_self _ _) hx
  have := bits_mask IntKind.u64 64 (by decide) (fun n a b => by rw [IntKind.wrap_u64]; omega) 1 (by omega) ((x / 2 ^ s : Nat) : Int) (Int.natCast_nonneg _) (by exact_mod_cast hlt)
  rw [h, show (1 : Int) = 2 ^ 1 - 1 from rfl, this, Nat.testBit_eq_decide_div_mod_eq]
  generalize x / 2 ^ s = y
  by_cases e : y % 2 = 1
  · rw [decide_eq_true e, if_pos rfl]; omega
  · rw [decide_eq_false e, if_neg (by simp)]; omega

theorem pw64 {E : Nat} (h : E < 64) : IntKind.u64.wrap ((2 : Int) ^ E) = (2 : Int) ^ E := by
  rw [IntKind.wrap_u64]
  have h1 : (2 : Nat) ^ E < 2 ^ 64 := Nat.pow_lt_pow_right (by decide) h
  have h2 : (2 : Int) ^ E = ((2 ^ E : Nat) : Int) := by simp
  rw [h2]
  generalize (2 : Nat) ^ E = z at *
  omega
def QmR (w1 : World) (p : Nat) (L1 : Lay) (s K W gk : Nat) (s8 s9 s10 : Value) (x : World) : Prop :=
  ∃ i f M L, i + gk = W ∧ s9 = .int .i64 f ∧ s10 = .int .i64 (i : Int) ∧ Sd w1 p L1 x M L ∧ Qk 150 (2 + i * 1000) M [(f, cubeF (qmL s (min i K)))] ∧ x.ownsRow w1.heap.size 3 1 s8 (qmV i).length ((qmV i).map natV) ∧ ∀ b, s8.ownBlock = some b → ¬ L.at p b

set_option maxRecDepth 1000000 in
set_option maxHeartbeats 8000000 in
theorem QuantCountsMany_walk (x y : Int) (s : Nat) (hs : s < 18446744073709551616) (w : World) :
    Calls Try.prog 3 #[.int .i64 x, .int .i64 y, .int .u64 (s : Int)] w fun e w' => e = .returned (.bool true) ∧ Kp No w w' := by
  obtain ⟨i0, hi0, hz0, hz1, hz2⟩ := info_parts info_int
  have AW := Lib.hid (qawake_ok w)
  have P1 := Lib.hid (fun (z : World) => Pick_ok x 140 z (by omega) (by omega))
  have hW := pick_lt x (n := 140) (by omega)
  generalize pick x 140 = W at *
  have P2 := Lib.hid (fun (z : World) => Pick_ok y (W + 1) z (by omega) (by omega))
  have hK := pick_lt y (n := W + 1) (by omega)
  generalize pick y (W + 1) = K at *
  have hW0 : (0 : Int) ≤ (W : Int) := by omega
  go_enter Try.func3, Try.ntmps3
  go_wp2_with fail
  refine AW.out.mono ?_
  rintro e w0 ⟨rfl, k0⟩
  have K0 := Lib.hid k0
  clear k0 AW
  go_wp2_with fail
  refine (P1.out _).mono ?_
  rintro e w' ⟨rfl, rfl⟩
  go_wp2_with fail
  refine (P2.out _).mono ?_
  rintro e w' ⟨rfl, rfl⟩
  have HN := Lib.hid (New_ok 150 w0)
  rw [show nvars 150 = 150 from rfl] at HN
  go_wp2_with fail
  refine HN.out.mono ?_
  rintro e w1 ⟨p, L1, rfl, R1, k1, o1⟩
  have K1 := Lib.hid (K0.out.trans_no k1)
  have O1 : Hid (∀ z, L1.at p z → w.heap.size ≤ z) := Lib.hid (fun z hz => by have := o1 z hz; have := K0.out.size; omega)
  have RL := Lib.hid R1.lt
  have J0 : Hid (QmR w1 p L1 s K W W (.slice none 0 0) (.int .i64 1) (.int .i64 0) w1) := Lib.hid ⟨0, 1, _, L1, by omega, rfl, rfl, Sd.start R1, by
    rw [Nat.zero_min]
    exact (Qk.new 150).consts.sub (fun z hz => by rw [List.mem_singleton.1 hz]; exact .tail _ (.head _)), World.ownsRow_nil _ _ _ _, fun z hz => by cases hz⟩
  clear R1 k1 o1 HN P1 P2
  go_wp2_with fail
  go_loopg [8, 9, 10] W (fun gk s8 s9 s10 z => QmR w1 p L1 s K W gk s8 s9 s10 z)
  case atStart => exact J0.out
  case round =>
    clear J0
    obtain ⟨i, f, M, L, hi, rfl, rfl, sd, qk, row, off⟩ := hrel
    by_cases hlt : i < W
    · have hlti : (i : Int) < W := by omega
      have HI := Lib.hid hi
      have SDH := Lib.hid sd
      have QK := Lib.hid qk
      have ROW := Lib.hid row
      have OFF := Lib.hid off
      have hln : (qmV i).length ≤ 140 := by rw [qmV_len]; omega
      have VN := Lib.hid (qmV_succ i)
      have LN := Lib.hid (qmL_succ s i)
      obtain ⟨u, hu⟩ : ∃ u : Nat, u = 149 - i := ⟨_, rfl⟩
      have hui : (149 : Int) - (i : Int) = (u : Int) := by omega
      have hu150 : u < 150 := by omega
      rw [← hu] at VN LN
      have hsz := sd.kp.size
      clear hi sd qk off hu
      generalize qmV i = lst at *
      go_upto_region 14 with (at_builtin; refine wpList_append_lies _ rfl (.tmp 31) (.tmp 34) _ rfl w1.heap.size 3 i0 _ 1 8 Try.underlying27 hi0 hz0 hz1 hz2 rfl (by omega) u8 lst.length (lst.map natV) rfl (row.alloc _) ⟨wr.heap.size, 0, none⟩ 1 1 [.int .i64 (u : Int)] rfl rfl (World.news_of_block (heap_alloc_new _ _)) (by simp [Value.oneCell']) (by omega) (by unfold maxLen; omega) (by omega) (by simp; omega) (wr.heap.size + 1) (by simp) ?_; intro g5 cap5 w3 hown hgrow hat hlt2)
      have FACT : Hid (Sd w1 p L1 w3 M L ∧ (∀ b, (Value.slice (some ⟨g5, 0, none⟩) (lst.length + 1) cap5).ownBlock = some b → ¬ L.at p b) ∧ w3.ownsRow w1.heap.size 3 1 (.slice (some ⟨g5, 0, none⟩) (lst.length + 1) cap5) (qmV (i + 1)).length ((qmV (i + 1)).map natV)) := Lib.hid (by
        obtain ⟨sd5, off5⟩ := le_grow (v := .slice (some ⟨g5, 0, none⟩) (lst.length + 1) cap5) SDH.out ROW.out OFF.out (grown_no (Kp.alloc _) hgrow) (fun b hb => by
          have : g5 = b := by injection hb
          subst this
          rcases hat with h | h
          · exact .inl h
          · right; omega)
        refine ⟨sd5, off5, ?_⟩
        rw [VN.out, List.length_append, List.map_append]
        exact hown)
      clear hown hgrow hat hlt2 row SDH ROW OFF
      generalize Value.slice (some ⟨g5, 0, none⟩) (lst.length + 1) cap5 = sv at *
      by_cases hik : i < K
      · have hiki : (i : Int) < K := by omega
        have e1 : min i K = i := by omega
        have e2 : min (i + 1) K = i + 1 := by omega
        rw [e1] at QK
        have V1 := Lib.hid (VarQ FACT.out.1.rep QK.out (v := u) hu150 (by omega))
        have PV := Lib.hid (PSt.var 150 u hu150)
        have P2 := Lib.hid (qm_st s (i + 1))
        clear e1
        go_wp2_with fail
        refine V1.out.mono ?_
        rintro e v1 ⟨x0, N1, h1, q1, _⟩
        obtain ⟨rfl, T1, d1, r1, f1⟩ := le_step FACT.out.1 FACT.out.2.2 FACT.out.2.1 h1
        have D1 := Lib.hid d1
        have R1 := Lib.hid r1
        have F1 := Lib.hid f1
        have Q1 := Lib.hid q1
        clear h1 d1 r1 f1 q1 V1 FACT QK
        cases hb : s.testBit (i % 64)
        · have VS : bits BinOp.and IntKind.u64 ((s : Int) / 2 ^ (i % 64)) 1 = 0 := by rw [bit_val64 hs, hb]; rfl
          have SA : Hid (∀ a, (cubeF (qmL s i) a && !a u) = cubeF (qmL s (i + 1)) a) := Lib.hid (fun a => by
            rw [LN.out, cubeF_snoc, show qmS s i = false from hb]; simp)
          have PA := Lib.hid (P2.out.congr SA.out)
          go_wp2_with fail
          refine (NotQ D1.out.rep Q1.out (f := x0) (F := fun a => a u) (.head _) PV.out (by have := HI.out; omega)).mono ?_
          rintro e v2 ⟨x1, N2, h2, q2, _⟩
          obtain ⟨rfl, T2, d2, r2, f2⟩ := le_step D1.out R1.out F1.out h2
          have D2 := Lib.hid d2
          have R2 := Lib.hid r2
          have F2 := Lib.hid f2
          have Q2 := Lib.hid q2
          clear h2 d2 r2 f2 q2 D1 R1 F1 Q1 hb
          go_wp2_with fail
          refine (AndQ D2.out.rep Q2.out (f := f) (F := cubeF (qmL s i)) (g := x1) (G := fun a => !a u) (.tail _ (.tail _ (.head _))) (.head _) PA.out (by have := HI.out; omega)).mono ?_
          rintro e v3 ⟨f3, N3, h3, q3, _⟩
          obtain ⟨rfl, T3, d3, r3, g3⟩ := le_step D2.out R2.out F2.out h3
          have JN : Hid (QmR w1 p L1 s K W (W - (i + 1)) sv (.int .i64 f3) (.int .i64 ((i + 1 : Nat) : Int)) v3) := Lib.hid ⟨i + 1, f3, N3, T3, by have := HI.out; omega, rfl, rfl, d3, by
            rw [e2, ← funext SA.out]
            exact (q3.sub (fun z hz => by rw [List.mem_singleton.1 hz]; exact .head _)).mono (by omega), r3, g3⟩
          clear h3 d3 r3 g3 q3 D2 R2 F2 Q2 SA PA
          go_wp2_with fail
          go_roundg (W - (i + 1))
          case measure => have := HI.out; omega
          case rel => exact JN.out
        · have VS : bits BinOp.and IntKind.u64 ((s : Int) / 2 ^ (i % 64)) 1 = 1 := by rw [bit_val64 hs, hb]; rfl
          have SA : Hid (∀ a, (cubeF (qmL s i) a && a u) = cubeF (qmL s (i + 1)) a) := Lib.hid (fun a => by
            rw [LN.out, cubeF_snoc, show qmS s i = true from hb]; simp)
          have PA := Lib.hid (P2.out.congr SA.out)
          clear hb
          go_wp2_with fail
          refine (AndQ D1.out.rep Q1.out (f := f) (F := cubeF (qmL s i)) (g := x0) (G := fun a => a u) (.tail _ (.head _)) (.head _) PA.out (by have := HI.out; omega)).mono ?_
          rintro e v3 ⟨f3, N3, h3, q3, _⟩
          obtain ⟨rfl, T3, d3, r3, g3⟩ := le_step D1.out R1.out F1.out h3
          have JN : Hid (QmR w1 p L1 s K W (W - (i + 1)) sv (.int .i64 f3) (.int .i64 ((i + 1 : Nat) : Int)) v3) := Lib.hid ⟨i + 1, f3, N3, T3, by have := HI.out; omega, rfl, rfl, d3, by
            rw [e2, ← funext SA.out]
            exact (q3.sub (fun z hz => by rw [List.mem_singleton.1 hz]; exact .head _)).mono (by omega), r3, g3⟩
          clear h3 d3 r3 g3 q3 D1 R1 F1 Q1 SA PA
          go_wp2_with fail
          go_roundg (W - (i + 1))
          case measure => have := HI.out; omega
          case rel => exact JN.out
      · have hiki : ¬ (i : Int) < K := by omega
        have e1 : min (i + 1) K = min i K := by omega
        have JN : Hid (QmR w1 p L1 s K W (W - (i + 1)) sv (.int .i64 f) (.int .i64 ((i + 1 : Nat) : Int)) w3) := Lib.hid ⟨i + 1, f, M, L, by have := HI.out; omega, rfl, rfl, FACT.out.1, by rw [e1]; exact QK.out.mono (by omega), FACT.out.2.2, FACT.out.2.1⟩
        clear FACT QK
        go_wp2_with fail
        go_roundg (W - (i + 1))
        case measure => have := HI.out; omega
        case rel => exact JN.out
    · obtain rfl : i = W := by omega
      have hge : ¬ (i : Int) < i := by omega
      have e1 : min i K = K := by omega
      rw [e1] at qk
      rw [qmV_len] at row
      obtain ⟨a8, c8, rfl⟩ := rowForm row
      have KW := Lib.hid (K1.out.trans (A' := L1.at p) (fun z hz => .inr (O1.out z hz)) sd.kp)
      have SD := Lib.hid sd
      have QK := Lib.hid qk
      have HV := Lib.hid (SrcAt.of_row row)
      clear sd qk row off hi hlt e1
      by_cases h127 : 127 < i
      · have h127i : (127 : Int) < i := by omega
        have CL := Lib.hid (Count_lim SD.out.rep QK.out (.head _) (by omega) (qmV i) (by rw [qmV_len]; exact h127) (by rw [qmV_len]; omega) (fun v hv => qmV_lt hv) (qmV_nodup (by omega)) (qm_free (by omega) (by omega)) (by rw [qmV_len]; exact HV.out))
        clear SD QK HV
        go_wp2_with fail
        refine CL.out.mono ?_
        rintro e w5 ⟨rfl, k5⟩
        have KF := Lib.hid (KW.out.trans_no k5)
        clear k5 CL
        go_wp2_with fail
        go_ret
        exact ⟨by simp, KF.out⟩
      · have h127i : ¬ (127 : Int) < i := by omega
        have CA := Lib.hid (CountA SD.out.rep QK.out (.head _) (by omega) (by omega) (qmV i) (by rw [qmV_len]; omega) (fun v hv => qmV_lt hv) (qmV_nodup (by omega)) (qm_free (by omega) (by omega)) (by rw [qmV_len]; exact HV.out))
        rw [qm_cnt (by omega) (by omega)] at CA
        obtain ⟨D, hD⟩ : ∃ D, D = i - K := ⟨_, rfl⟩
        have hDi : (i : Int) - (K : Int) = (D : Int) := by omega
        rw [← hD] at CA
        clear SD QK HV
        by_cases h64 : 64 ≤ D
        · have h64i : (64 : Int) ≤ D := by omega
          have e1 : 2 ^ D / 2 ^ 64 = 2 ^ (D - 64) := Nat.pow_div h64 (by decide)
          have e2 : 2 ^ D % 2 ^ 64 = 0 := by
            have : 2 ^ D = 2 ^ (D - 64) * 2 ^ 64 := by rw [← Nat.pow_add]; congr 1; omega
            rw [this]; exact Nat.mul_mod_left _ _
          rw [e1, e2] at CA
          obtain ⟨E, hE⟩ : ∃ E, E = D - 64 := ⟨_, rfl⟩
          have hEi : (D : Int) - 64 = (E : Int) := by omega
          have hE64 : E < 64 := by omega
          have hE64i : (E : Int) < 64 := by omega
          have hE0 : (0 : Int) ≤ (E : Int) := by omega
          have hEw : IntKind.u64.wrap ((2 : Int) ^ E) = (2 : Int) ^ E := pw64 hE64
          rw [← hE] at CA
          clear hD hE e1 e2
          go_wp2_with fail
          refine CA.out.mono ?_
          rintro e w5 ⟨rfl, k5⟩
          have KF := Lib.hid (KW.out.trans_no k5)
          clear k5 CA
          go_wp2_with fail
          go_ret
          exact ⟨by simp, KF.out⟩
        · have h64i : ¬ (64 : Int) ≤ D := by omega
          have e1 : 2 ^ D / 2 ^ 64 = 0 := Nat.div_eq_of_lt (Nat.pow_lt_pow_right (by decide) (by omega))
          have e2 : 2 ^ D % 2 ^ 64 = 2 ^ D := Nat.mod_eq_of_lt (Nat.pow_lt_pow_right (by decide) (by omega))
          rw [e1, e2] at CA
          have hE64 : (D : Int) < 64 := by omega
          have hE0 : (0 : Int) ≤ (D : Int) := by omega
          have hEw : IntKind.u64.wrap ((2 : Int) ^ D) = (2 : Int) ^ D := pw64 (by omega)
          clear hD e1 e2
          go_wp2_with fail
          refine CA.out.mono ?_
          rintro e w5 ⟨rfl, k5⟩
          have KF := Lib.hid (KW.out.trans_no k5)
          clear k5 CA
          go_wp2_with fail
          go_ret
          exact ⟨by simp, KF.out⟩

theorem QuantCountsMany_law (x y s : Int) (h : 0 ≤ s ∧ s ≤ 18446744073709551615) (w : World) :
    Calls Try.prog 3 #[.int .i64 x, .int .i64 y, .int .u64 s] w fun e w' => e = .returned (.bool true) ∧ Kp No w w' := by
  have := QuantCountsMany_walk x y s.toNat (by omega) w
  rw [Int.toNat_of_nonneg h.1] at this
  exact this

end Go.Proofs.Ytohinonkfhkclaa
