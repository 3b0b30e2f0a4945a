/-
  Walks: the law QuantCountsMany.
-/
import Derived.Test.YtngbodmooddjbaaQw
import Derived.Test.YtngbodmooddjbaaCz
import Derived.Test.YtngbodmooddjbaaCube
namespace Go.Proofs.Ytngbodmooddjbaa
open Go.RowKit

/-! ### plain -/
theorem cntL_all : ∀ (vs : List Nat) {F : Bfn}, (∀ a, F a = true) → cntL F vs = 2 ^ vs.length
  | [], F, h => by unfold cntL; rw [h]; rfl
  | v :: vs, F, h => by
    simp only [cntL, List.length_cons, Nat.pow_succ]
    rw [cntL_all vs (fun a => h _), cntL_all vs (fun a => h _)]; omega
theorem cntL_no : ∀ (vs : List Nat) {F : Bfn}, (∀ a, F a = false) → cntL F vs = 0
  | [], F, h => by unfold cntL; rw [h]; rfl
  | v :: vs, F, h => by
    simp only [cntL]
    rw [cntL_no vs (fun a => h _), cntL_no vs (fun a => h _)]
theorem cntL_fix (x : Nat → Bool) (l2 : List Nat) : ∀ (l1 : List Nat) {F : Bfn}, (l1 ++ l2).Nodup → (∀ a, F a = true ↔ ∀ v, v ∈ l1 → a v = x v) → cntL F (l1 ++ l2) = 2 ^ l2.length
  | [], F, _, h => cntL_all l2 (fun a => (h a).2 (fun v hv => by cases hv))
  | v :: l1, F, nd, h => by
    rw [List.cons_append, List.nodup_cons] at nd
    have hv1 : v ∉ l1 := fun hm => nd.1 (List.mem_append_left _ hm)
    rw [List.cons_append]
    simp only [cntL]
    have one : cntL (fun a => F (Mgr.upd a v (x v))) (l1 ++ l2) = 2 ^ l2.length := cntL_fix x l2 l1 nd.2 (fun a => by
      rw [h]
      constructor
      · intro k u hu
        have := k u (List.mem_cons_of_mem _ hu)
        rw [Mgr.upd_other _ _ _ _ (fun e => hv1 (by rw [← e]; exact hu))] at this
        exact this
      · intro k u hu
        rcases List.mem_cons.1 hu with rfl | hu
        · exact Mgr.upd_same _ _ _
        · rw [Mgr.upd_other _ _ _ _ (fun e => hv1 (by rw [← e]; exact hu))]; exact k u hu)
    have zero : cntL (fun a => F (Mgr.upd a v (!x v))) (l1 ++ l2) = 0 := cntL_no _ (fun a => by
      cases hx : F (Mgr.upd a v (!x v))
      · rfl
      · have := (h _).1 hx v List.mem_cons_self
        rw [Mgr.upd_same] at this
        cases hv : x v <;> rw [hv] at this <;> cases this)
    cases hx : x v <;> rw [hx] at one zero <;> simp only [Bool.not_true, Bool.not_false] at zero <;> omega
/-- The variables and the literals of the law. -/
def qmV (i : Nat) : List Nat := (List.range i).map fun j => 149 - j
def qmS (s j : Nat) : Bool := s.testBit (j % 64)
def qmL (s i : Nat) : List Lit2 := (List.range i).map fun j => (149 - j, qmS s j)
theorem qmV_succ (i : Nat) : qmV (i + 1) = qmV i ++ [149 - i] := by unfold qmV; rw [List.range_succ, List.map_append]; rfl
theorem qmL_succ (s i : Nat) : qmL s (i + 1) = qmL s i ++ [(149 - i, qmS s i)] := by unfold qmL; rw [List.range_succ, List.map_append]; rfl
theorem qmV_len (i : Nat) : (qmV i).length = i := by simp [qmV]
theorem qmV_lt {i v : Nat} (h : v ∈ qmV i) : v < 150 := by
  unfold qmV at h
  obtain ⟨j, _, rfl⟩ := List.mem_map.1 h; omega
theorem qmV_nodup {i : Nat} (h : i ≤ 140) : (qmV i).Nodup := by
  unfold qmV
  rw [List.nodup_iff_pairwise_ne, List.pairwise_map]
  have hr : (List.range i).Nodup := List.nodup_range
  rw [List.nodup_iff_pairwise_ne] at hr
  refine hr.imp_of_mem (fun {x y} hx hy hne => ?_)
  have := List.mem_range.1 hx
  have := List.mem_range.1 hy
  omega
theorem qmV_split {k w : Nat} (h : k ≤ w) : qmV w = qmV k ++ (List.range (w - k)).map fun j => 149 - (k + j) := by
  unfold qmV
  have : List.range w = List.range k ++ (List.range (w - k)).map (fun j => k + j) := by
    rw [← List.range_add, Nat.add_sub_cancel' h]
  rw [this, List.map_append, List.map_map]; rfl
theorem qmL_iff {s k : Nat} (h : k ≤ 140) (a : Nat → Bool) : cubeF (qmL s k) a = true ↔ ∀ v, v ∈ qmV k → a v = qmS s (149 - v) := by
  unfold cubeF qmL qmV
  rw [List.all_eq_true]
  constructor
  · intro hx v hv
    obtain ⟨j, hj, rfl⟩ := List.mem_map.1 hv
    have := hx _ (List.mem_map.2 ⟨j, hj, rfl⟩)
    have hj := List.mem_range.1 hj
    rw [show 149 - (149 - j) = j by omega]
    simpa using this
  · intro hx y hy
    obtain ⟨j, hj, rfl⟩ := List.mem_map.1 hy
    have := hx (149 - j) (List.mem_map.2 ⟨j, hj, rfl⟩)
    have hj := List.mem_range.1 hj
    rw [show 149 - (149 - j) = j by omega] at this
    simp [this]
theorem qm_cnt {s k w : Nat} (h : k ≤ w) (hw : w ≤ 140) : cntL (cubeF (qmL s k)) (qmV w) = 2 ^ (w - k) := by
  have nd := qmV_nodup hw
  rw [qmV_split h] at nd ⊢
  rw [cntL_fix (fun v => qmS s (149 - v)) _ _ nd (fun a => qmL_iff (by omega) a)]
  simp
theorem qm_free {s k w : Nat} (h : k ≤ w) (hw : w ≤ 140) : ∀ v, v < 150 → v ∉ qmV w → ∀ a, cubeF (qmL s k) (Mgr.upd a v false) = cubeF (qmL s k) (Mgr.upd a v true) := fun v _ hn a => by
  rw [Bool.eq_iff_iff, qmL_iff (by omega), qmL_iff (by omega)]
  have hk : ∀ u, u ∈ qmV k → u ≠ v := fun u hu e => hn (by rw [qmV_split h, ← e]; exact List.mem_append_left _ hu)
  constructor
  · intro hx u hu
    have := hx u hu
    rw [Mgr.upd_other _ _ _ _ (hk u hu)] at this ⊢; exact this
  · intro hx u hu
    have := hx u hu
    rw [Mgr.upd_other _ _ _ _ (hk u hu)] at this ⊢; exact this
theorem qm_st (s k : Nat) : PSt 150 (cubeF (qmL s k)) 2 := fun M _ _ => cube_states M _

/-! ### contracts -/
theorem CountA {p n c : Nat} {M : Mgr} {L : Lay} {B : List (Int × Bfn)} {f : Int} {F : Bfn} {w : World} (R : Rep w p M L) (b : Qk n c M B) (hf : (f, F) ∈ B) (hn : n ≤ 256) (h0 : 0 < n) (vs : List Nat) (hl : vs.length ≤ 127) (hlv : ∀ v, v ∈ vs → v < n) (nd : vs.Nodup) (hF : ∀ v, v < n → v ∉ vs → ∀ a, F (Mgr.upd a v false) = F (Mgr.upd a v true)) {dv : Value} (hd : SrcAt w dv 1 vs.length (vs.map natV)) :
    Calls Try.prog 48 #[ptr p, .int .i64 f, dv] w fun e w' => e = .returned (.tuple #[.int .u64 ((cntL F vs / 2 ^ 64 : Nat) : Int), .int .u64 ((cntL F vs % 2 ^ 64 : Nat) : Int), .int .i64 0]) ∧ Kp No w w' := by
  have sup := sup_of b hf hF
  obtain ⟨hv1, hs⟩ := b.at hf
  obtain ⟨k, rfl, sk, _⟩ := Mgr.valid_nat b.wf hv1
  have e : M.sem k = F := funext fun x => by have := hs x; rw [Int.toNat_natCast] at this; exact this
  have := Count_all k vs hl (by rw [b.nn]; exact h0) (fun v hv => by rw [b.nn]; exact hlv v hv) nd sk hv1 sup R (by rw [b.nn]; omega) hd
  rw [e] at this
  exact this
set_option maxRecDepth 100000 in
theorem Count_lim {p n c : Nat} {M : Mgr} {L : Lay} {B : List (Int × Bfn)} {f : Int} {F : Bfn} {w : World} (R : Rep w p M L) (b : Qk n c M B) (hf : (f, F) ∈ B) (hn : n ≤ 256) (vs : List Nat) (hl : 127 < vs.length) (hl2 : vs.length ≤ 1000000) (hlv : ∀ v, v ∈ vs → v < n) (nd : vs.Nodup) (hF : ∀ v, v < n → v ∉ vs → ∀ a, F (Mgr.upd a v false) = F (Mgr.upd a v true)) {dv : Value} (hd : SrcAt w dv 1 vs.length (vs.map natV)) :
    Calls Try.prog 48 #[ptr p, .int .i64 f, dv] w fun e w' => e = .returned (.tuple #[.int .u64 0, .int .u64 0, .int .i64 7]) ∧ Kp No w w' := by
  have sup := sup_of b hf hF
  have CM := Lib.hid (complete_ok f vs hl2 (fun v hv => by rw [b.nn]; exact hlv v hv) (b.at hf).1 R (by rw [b.nn]; omega) hd true ⟨fun _ => ⟨nd, sup⟩, fun _ => rfl⟩)
  obtain ⟨ao, cp, rfl⟩ := hd.form
  have hli : (127 : Int) < vs.length := by omega
  clear R b hf sup hF hd hl
  go_enter Try.func48, Try.ntmps48
  go_wp2_with fail
  refine CM.out.mono ?_
  rintro e w1 ⟨rfl, k1⟩
  have K1 := Lib.hid k1
  clear k1 CM
  go_wp2_with fail
  refine bodyPost_ret (v := .tuple #[.int .u64 0, .int .u64 0, .int .i64 7]) (by simp [results, Try.results48, go_sem]) rfl ⟨rfl, K1.out⟩

theorem bit_val64 {x s : Nat} (hx : x < 18446744073709551616) : bits BinOp.and IntKind.u64 ((x : Int) / 2 ^ s) 1 = if x.testBit s then 1 else 0 := by
  have h : (x : Int) / 2 ^ s = ((x / 2 ^ s : Nat) : Int) := by simp
  have hlt : x / 2 ^ s < 2 ^ 64 := Nat.lt_of_le_of_lt (Nat.div_le_self _ _) hx
  have := bits_mask IntKind.u64 64 (by decide) (fun n a b => by rw [IntKind.wrap_u64]; omega) 1 (by omega) ((x / 2 ^ s : Nat) : Int) (Int.natCast_nonneg _) (by exact_mod_cast hlt)
  rw [h, show (1 : Int) = 2 ^ 1 - 1 from rfl, this, Nat.testBit_eq_decide_div_mod_eq]
  generalize x / 2 ^ s = y
  by_cases e : y % 2 = 1
  · rw [decide_eq_true e, if_pos rfl]; omega
  · rw [decide_eq_false e, if_neg (by simp)]; omega

theorem pw64 {E : Nat} (h : E < 64) : IntKind.u64.wrap ((2 : Int) ^ E) = (2 : Int) ^ E := by
  rw [IntKind.wrap_u64]
  have h1 : (2 : Nat) ^ E < 2 ^ 64 := Nat.pow_lt_pow_right (by decide) h
  have h2 : (2 : Int) ^ E = ((2 ^ E : Nat) : Int) := by simp
  rw [h2]
  generalize (2 : Nat) ^ E = z at *
  omega
def QmR (w1 : World) (p : Nat) (L1 : Lay) (s K W gk : Nat) (s8 s9 s10 : Value) (x : World) : Prop :=
  ∃ i f M L, i + gk = W ∧ s9 = .int .i64 f ∧ s10 = .int .i64 (i : Int) ∧ Sd w1 p L1 x M L ∧ Qk 150 (2 + i * 1000) M [(f, cubeF (qmL s (min i K)))] ∧ x.ownsRow w1.heap.size 3 1 s8 (qmV i).length ((qmV i).map natV) ∧ ∀ b, s8.ownBlock = some b → ¬ L.at p b

end Go.Proofs.Ytngbodmooddjbaa
