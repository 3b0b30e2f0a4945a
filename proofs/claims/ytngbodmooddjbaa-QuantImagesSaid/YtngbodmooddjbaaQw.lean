/-
  Walks: 'awake' of the laws of chapter 27; 'Count' of a set of a bank.
-/
import Derived.Test.YtngbodmooddjbaaQs
import Derived.Test.YtngbodmooddjbaaCq
import Derived.Test.YtngbodmooddjbaaLo
namespace Go.Proofs.Ytngbodmooddjbaa
open Go.RowKit

theorem SrcAt.lit (w : World) (l : List Nat) (t : TypeId) : SrcAt (w.alloc (.cells (l.map natV).toArray t)) (.slice (some ⟨w.heap.size, 0, none⟩) l.length l.length) 1 l.length (l.map natV) :=
  ⟨_, _, rfl, by simp, .inr ⟨w.heap.size, 0, rfl, by simp, fun j u hu => by
    have h := heap_alloc_new w (.cells (l.map natV).toArray t)
    rw [Nat.zero_add, cell_of_row _ _ _ _ _ _ h]
    simpa using hu⟩⟩
/-- F depends on the variables of a list alone. -/
theorem sup_of {n c : Nat} {M : Mgr} {B : List (Int × Bfn)} {f : Int} {F : Bfn} (b : Qk n c M B) (hf : (f, F) ∈ B) {vs : List Nat} (hF : ∀ v, v < n → v ∉ vs → ∀ a, F (Mgr.upd a v false) = F (Mgr.upd a v true)) : ∀ v, v ∈ M.supM f → v ∈ vs := fun v hv => by
  obtain ⟨hv1, hs⟩ := b.at hf
  obtain ⟨k, rfl, sk, _⟩ := Mgr.valid_nat b.wf hv1
  have e : M.sem k = F := funext fun x => by have := hs x; rw [Int.toNat_natCast] at this; exact this
  unfold Mgr.supM at hv
  rw [if_pos hv1, Int.toNat_natCast] at hv
  obtain ⟨hvn, a, ha⟩ := (Mgr.supp_iff b.wf sk v).1 hv
  rw [b.nn] at hvn
  rw [e] at ha
  by_cases h : v ∈ vs
  · exact h
  · exact (ha (hF v hvn h a)).elim
theorem sup_bad {n c : Nat} {M : Mgr} {B : List (Int × Bfn)} {f : Int} {F : Bfn} (b : Qk n c M B) (hf : (f, F) ∈ B) {vs : List Nat} {v : Nat} (hv : v < n) (hn : v ∉ vs) {a : Nat → Bool} (ha : F (Mgr.upd a v false) ≠ F (Mgr.upd a v true)) : ¬ ∀ v, v ∈ M.supM f → v ∈ vs := fun hall => by
  obtain ⟨hv1, hs⟩ := b.at hf
  obtain ⟨k, rfl, sk, _⟩ := Mgr.valid_nat b.wf hv1
  have e : M.sem k = F := funext fun x => by have := hs x; rw [Int.toNat_natCast] at this; exact this
  have hm : v ∈ M.supM (k : Int) := by
    unfold Mgr.supM
    rw [if_pos hv1, Int.toNat_natCast]
    exact (Mgr.supp_iff b.wf sk v).2 ⟨by rw [b.nn]; exact hv, a, by rw [e]; exact ha⟩
  exact hn (hall v hm)
theorem CountS {p n c : Nat} {M : Mgr} {L : Lay} {B : List (Int × Bfn)} {f : Int} {F : Bfn} {w : World} (R : Rep w p M L) (b : Qk n c M B) (hf : (f, F) ∈ B) (hn : n ≤ 256) (vs : List Nat) (hl : vs.length ≤ 127) (hpos : 0 < vs.length) (hlv : ∀ v, v ∈ vs → v < n) (nd : vs.Nodup) (hF : ∀ v, v < n → v ∉ vs → ∀ a, F (Mgr.upd a v false) = F (Mgr.upd a v true)) {dv : Value} (hd : SrcAt w dv 1 vs.length (vs.map natV)) :
    Calls Try.prog 48 #[ptr p, .int .i64 f, dv] w fun e w' => e = .returned (.tuple #[.int .u64 ((cntL F vs / 2 ^ 64 : Nat) : Int), .int .u64 ((cntL F vs % 2 ^ 64 : Nat) : Int), .int .i64 0]) ∧ Kp No w w' := by
  have sup := sup_of b hf hF
  obtain ⟨hv1, hs⟩ := b.at hf
  obtain ⟨k, rfl, sk, _⟩ := Mgr.valid_nat b.wf hv1
  have e : M.sem k = F := funext fun x => by have := hs x; rw [Int.toNat_natCast] at this; exact this
  have := Count_ok k vs hl hpos (fun v hv => by rw [b.nn]; exact hlv v hv) nd sk hv1 sup R (by rw [b.nn]; omega) hd
  rw [e] at this
  exact this

theorem Own.step_at {w0 w w' : World} {p : Nat} {M M' : Mgr} {L : Lay} {v : Value} {e : Ending} (s : Own w0 p w M L) (h : Ret p L w M' v e w') {g : Nat} (hg : g < w.heap.size) (hn : ¬ L.at p g) :
    e = .returned v ∧ ∃ L', Own w0 p w' M' L' ∧ (∀ i, w'.cell? ⟨g, i, none⟩ = w.cell? ⟨g, i, none⟩) ∧ g < w'.heap.size ∧ ¬ L'.at p g := by
  obtain ⟨L', he, r, k, f⟩ := h
  refine ⟨he, L', ⟨r, s.kp.trans (A' := L.at p) (fun x hx => .inr (s.own x hx)) k, fun x hx => ?_⟩, fun i => k.cell (a := ⟨g, i, none⟩) hg hn, Nat.lt_of_lt_of_le hg k.size, fun hA => ?_⟩
  · rcases f x hx with h1 | h1
    · exact s.own x h1
    · have := s.kp.size; omega
  · rcases f g hA with h1 | h1
    · exact hn h1
    · omega

/-! ### 'awake' -/
def awF : Bfn := fun a => a 0 || a 1
theorem aw_cnt : cntL awF [0, 1, 2] = 6 := by decide +kernel
theorem aw_ls : lsV awF [0, 1] = [false, true] := by
  have h0 : lsB awF 0 = false := lsB_f (fun h => by have := h (fun _ => true); revert this; decide)
  have h1 : lsB (fun a => awF (Mgr.upd a 0 false)) 1 = true := lsB_t (fun a => by simp [awF, Mgr.upd])
  simp only [lsV]
  rw [h0, h1]
theorem aw_ex (a : Nat → Bool) : exQ [0] awF a = true := by simp [exQ, awF, Mgr.upd]
theorem aw_al (a : Nat → Bool) : alQ [0] awF a = a 1 := by simp [alQ, exQ, awF, Mgr.upd]
theorem aw_rn (a : Nat → Bool) : rnF (rnT 3 [0] [2]) awF a = (a 2 || a 1) := by
  have h : rnT 3 [0] [2] 0 = 2 ∧ rnT 3 [0] [2] 1 = 1 := by decide
  show (a (rnT 3 [0] [2] 0) || a (rnT 3 [0] [2] 1)) = _
  rw [h.1, h.2]

set_option maxRecDepth 100000 in
set_option maxHeartbeats 4000000 in
theorem qawake_ok (w : World) : Calls Try.prog 11 #[] w fun e w' => e = .returned (.bool true) ∧ Kp No w w' := by
  have hnew := New_ok 3 w
  rw [show nvars 3 = 3 from rfl] at hnew
  have HN := Lib.hid hnew
  clear hnew
  go_enter Try.func11, Try.ntmps11
  go_wp2_with fail
  refine HN.out.mono ?_
  rintro e w1 ⟨p, L1, rfl, R1, k1, o1⟩
  have s1 := Lib.hid (show Own w p w1 (Mgr.new 3) L1 from ⟨R1, k1, o1⟩)
  have b1 := Lib.hid (Qk.new 3)
  clear R1 k1 o1 HN
  go_wp2_with fail
  refine (VarS s1.out.rep b1.out (by omega) (v := 0) (by omega)).mono ?_
  rintro e w2 ⟨x, M2, h2, q2, _⟩
  obtain ⟨rfl, L2, t2⟩ := s1.out.step h2
  have s2 := Lib.hid t2
  have b2 := Lib.hid q2
  clear h2 q2 t2 s1 b1
  go_wp2_with fail
  refine (VarS s2.out.rep b2.out (by omega) (v := 1) (by omega)).mono ?_
  rintro e w3 ⟨y, M3, h3, q3, _⟩
  obtain ⟨rfl, L3, t3⟩ := s2.out.step h3
  have s3 := Lib.hid t3
  have b3 := Lib.hid q3
  clear h3 q3 t3 s2 b2
  go_wp2_with fail
  refine (OrS (by omega) s3.out.rep b3.out (by omega) (.tail _ (.head _)) (.head _)).mono ?_
  rintro e w4 ⟨f, M4, h4, q4, _⟩
  obtain ⟨rfl, L4, t4⟩ := s3.out.step h4
  have s4 := Lib.hid (t4.no (Kp.alloc (.cells #[.int .i64 0, .int .i64 1, .int .i64 2] 3)))
  have b4 := Lib.hid (show Qk 3 _ M4 [(f, awF), (y, fun a => a 1)] from q4.sub (fun z hz => by
    rcases List.mem_cons.1 hz with rfl | hz
    · exact .head _
    · rw [List.mem_singleton.1 hz]; exact .tail _ (.head _)))
  have C4 := Lib.hid (CountS s4.out.rep b4.out (.head _) (by omega) [0, 1, 2] (by decide) (by decide) (by decide) (by decide) (fun v hv hn a => absurd (show v ∈ [0, 1, 2] by simp; omega) hn) (SrcAt.lit w4 [0, 1, 2] 3))
  rw [aw_cnt] at C4
  clear h4 q4 t4 s3 b3
  go_wp2_with fail
  refine C4.out.mono ?_
  rintro e w5 ⟨rfl, k5⟩
  have s5 := Lib.hid ((s4.out.no k5).no (Kp.alloc (.cells #[.int .i64 0, .int .i64 1] 3)))
  have F5 : Hid (f ≠ 0) := Lib.hid (fun e0 => by
    subst e0
    have := b4.out.consts.eq_conv (.head _) (.tail _ (.tail _ (.head _))) (fun _ => true)
    revert this; decide)
  have C5 := Lib.hid (Least_off (F := awF) (s := 64) [0, 1] (by decide) (by decide) (by decide) s5.out.rep b4.out (.head _) F5.out (st64 (by omega) (b4.out.rd (.head _))) (by omega) (sup_of b4.out (.head _) (fun v hv hn a => by
    have : v = 2 := by simp at hn; omega
    subst this; rfl)) (SrcAt.lit w5 [0, 1] 3) (fun g o m cc e hA => by
    cases e
    have := s5.out.rep
    have h1 := s4.out.no k5
    have h2 := h1.rep.lt _ hA
    omega) (by decide))
  rw [aw_ls] at C5
  clear k5 C4 s4
  go_wp2_with fail
  refine C5.out.mono ?_
  rintro e w6 ⟨a6, c6, M6, L6, rfl, rr, kp, fr, q6, row, off⟩
  simp only [List.length_cons, List.length_nil, Nat.zero_add, Nat.reduceAdd] at row off q6
  have s6 := Lib.hid ((s5.out.step (e := .returned (.bool true)) ⟨L6, rfl, rr, kp, fr⟩).2)
  clear C5
  have SD := Lib.hid (show Own w p w6 M6 L6 from ⟨rr, s5.out.kp.trans (A' := L4.at p) (fun x hx => .inr (s5.out.own x hx)) kp, fun x hx => by
    rcases fr x hx with h1 | h1
    · exact s5.out.own x h1
    · have := s5.out.kp.size; omega⟩)
  have ROW := Lib.hid (And.intro row off)
  have b6 := Lib.hid (q6.mono (c' := 100000000) (by omega))
  clear rr kp fr q6 row off s6 s5 b4 F5
  obtain ⟨g6, d6, hv6, _⟩ := ownsRow_open ROW.out.1 (by omega)
  obtain rfl : a6 = some ⟨g6, 0, none⟩ := by injection hv6
  clear hv6
  have s7 := Lib.hid (SD.out.no (Kp.alloc (.cells #[.int .i64 0] 3)))
  have R7 : Hid ((w6.alloc (.cells #[.int .i64 0] 3)).cell? ⟨g6, 0, none⟩ = some (.bool false) ∧ (w6.alloc (.cells #[.int .i64 0] 3)).cell? ⟨g6, 1, none⟩ = some (.bool true) ∧ g6 < w6.heap.size ∧ ¬ L6.at p g6) := Lib.hid (by
    obtain ⟨g, cap, hq, _, _, _, hc, _⟩ := ownsRow_open (ownsRow_kp ROW.out.1 (Kp.alloc (.cells #[.int .i64 0] 3)) (fun _ _ z => z)) (by omega)
    cases hq
    exact ⟨hc 0 _ rfl, hc 1 _ rfl, (ROW.out.1.lt g6 rfl).2, ROW.out.2 g6 rfl⟩)
  have E7 := Lib.hid (ExistsS (by omega) s7.out.rep b6.out (by omega) (.head _) [0] (by decide) (by decide) (SrcAt.lit w6 [0] 3))
  clear ROW SD
  go_wp2_with fail
  refine E7.out.mono ?_
  rintro e w8 ⟨r8, M8, h8, q8, _⟩
  have er8 : r8 = 1 := q8.consts.eq (.tail _ (.tail _ (.head _))) (.tail _ (.head _)) aw_ex
  obtain ⟨rfl, L8, t8, ce8, hg8, hn8⟩ := s7.out.step_at h8 (g := g6) (Nat.lt_of_lt_of_le R7.out.2.2.1 (by simp)) R7.out.2.2.2
  subst er8
  have s8 := Lib.hid (t8.no (Kp.alloc (.cells #[.int .i64 0] 3)))
  have R8 : Hid (w8.cell? ⟨g6, 0, none⟩ = some (.bool false) ∧ w8.cell? ⟨g6, 1, none⟩ = some (.bool true) ∧ g6 < w8.heap.size ∧ ¬ L8.at p g6) := Lib.hid ⟨by rw [ce8]; exact R7.out.1, by rw [ce8]; exact R7.out.2.1, hg8, hn8⟩
  have b8 := Lib.hid (q8.sub (B' := [(f, awF), (y, fun a => a 1)]) (fun _ h => .tail _ h))
  have E8 := Lib.hid (ForAllS (by omega) s8.out.rep b8.out (by omega) (.head _) [0] (by decide) (by decide) (SrcAt.lit w8 [0] 3) (fun g o m cc e hA => by
    cases e
    have := t8.rep.lt _ hA
    omega))
  clear h8 q8 t8 ce8 hg8 hn8 E7 s7 R7 b6
  go_wp2_with fail
  refine E8.out.mono ?_
  rintro e w9 ⟨r9, M9, h9, q9, _⟩
  have er9 : r9 = y := q9.eq (.head _) (.tail _ (.tail _ (.head _))) aw_al
  subst er9
  obtain ⟨rfl, L9, t9, ce9, hg9, hn9⟩ := s8.out.step_at h9 (g := g6) (Nat.lt_of_lt_of_le R8.out.2.2.1 (by simp)) R8.out.2.2.2
  have k89 : Kp No w8 (w8.alloc (.cells #[.int .i64 0] 3)) := Kp.alloc _
  have R9 : Hid (w9.cell? ⟨g6, 0, none⟩ = some (.bool false) ∧ w9.cell? ⟨g6, 1, none⟩ = some (.bool true) ∧ g6 < w9.heap.size ∧ ¬ L9.at p g6) := Lib.hid ⟨by rw [ce9, k89.cell (a := ⟨g6, 0, none⟩) R8.out.2.2.1 (fun h => h)]; exact R8.out.1, by rw [ce9, k89.cell (a := ⟨g6, 1, none⟩) R8.out.2.2.1 (fun h => h)]; exact R8.out.2.1, hg9, hn9⟩
  have s9 := Lib.hid t9
  have b9 := Lib.hid (q9.sub (B' := [(f, awF), (r9, fun a => a 1)]) (fun _ h => .tail _ h))
  clear h9 q9 t9 ce9 hg9 hn9 E8 s8 R8 b8 k89
  go_wp2_with fail
  refine (VarS s9.out.rep b9.out (by omega) (v := 1) (by omega)).mono ?_
  rintro e w10 ⟨r10, M10, h10, q10, _⟩
  have er10 : r10 = r9 := q10.eq (.head _) (.tail _ (.tail _ (.head _))) (fun _ => rfl)
  subst er10
  obtain ⟨rfl, L10, t10, ce10, hg10, hn10⟩ := s9.out.step_at h10 (g := g6) R9.out.2.2.1 R9.out.2.2.2
  have f0 : w10.cell? ⟨g6, 0, none⟩ = some (.bool false) := by rw [ce10]; exact R9.out.1
  have f1 : w10.cell? ⟨g6, 1, none⟩ = some (.bool true) := by rw [ce10]; exact R9.out.2.1
  have s10 := Lib.hid ((t10.no (Kp.alloc (.cells #[.int .i64 0] 3))).no (Kp.alloc (.cells #[.int .i64 2] 3)))
  have b10 := Lib.hid (q10.sub (B' := [(f, awF)]) (fun z hz => by rw [List.mem_singleton.1 hz]; exact .tail _ (.head _)))
  have RN := Lib.hid (RenameS (by omega) (by omega) s10.out.rep b10.out (by omega) (.head _) [0] [2] rfl (by decide) (by decide) (by decide) (by decide) (by decide) ((SrcAt.lit w10 [0] 3).no (Kp.alloc (.cells #[.int .i64 2] 3))) (SrcAt.lit (w10.alloc (.cells #[.int .i64 0] 3)) [2] 3))
  rw [show (w10.alloc (.cells #[.int .i64 0] 3)).heap.size = w10.heap.size + 1 by simp] at RN
  clear h10 q10 t10 ce10 hg10 hn10 s9 R9 b9
  go_wp2_with fail
  refine RN.out.mono ?_
  rintro e w11 ⟨r11, M11, h11, q11, _⟩
  obtain ⟨rfl, L11, t11⟩ := s10.out.step h11
  have s11 := Lib.hid t11
  have b11 := Lib.hid q11
  clear h11 t11 q11 RN s10 b10 f0 f1
  go_wp2_with fail
  refine (VarS s11.out.rep b11.out (by omega) (v := 2) (by omega)).mono ?_
  rintro e w12 ⟨r12, M12, h12, q12, _⟩
  obtain ⟨rfl, L12, t12⟩ := s11.out.step h12
  have s12 := Lib.hid t12
  have b12 := Lib.hid q12
  clear h12 t12 q12 s11 b11
  go_wp2_with fail
  refine (VarS s12.out.rep b12.out (by omega) (v := 1) (by omega)).mono ?_
  rintro e w13 ⟨r13, M13, h13, q13, _⟩
  obtain ⟨rfl, L13, t13⟩ := s12.out.step h13
  have s13 := Lib.hid t13
  have b13 := Lib.hid q13
  clear h13 t13 q13 s12 b12
  go_wp2_with fail
  refine (OrS (by omega) s13.out.rep b13.out (by omega) (.tail _ (.head _)) (.head _)).mono ?_
  rintro e w14 ⟨r14, M14, h14, q14, _⟩
  have er14 : r11 = r14 := q14.eq (.tail _ (.tail _ (.tail _ (.head _)))) (.head _) aw_rn
  obtain ⟨rfl, L14, t14⟩ := s13.out.step h14
  have KF := Lib.hid t14.kp
  clear h14 t14 q14 s13 b13
  subst er14
  go_wp2_with fail
  go_ret
  exact ⟨by simp, KF.out⟩

end Go.Proofs.Ytngbodmooddjbaa
