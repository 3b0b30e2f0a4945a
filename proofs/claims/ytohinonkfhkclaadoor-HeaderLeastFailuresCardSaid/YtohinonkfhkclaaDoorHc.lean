/-
  Walks: 'Count' of the package quant at a set that reads more; 'Count' of the package header.
-/
import Derived.Test.YtohinonkfhkclaaDoorCq
import Derived.Test.YtohinonkfhkclaaDoorXe
namespace Go.Proofs.YtohinonkfhkclaaDoor
open Go.RowKit

theorem mem_hvK {v : Nat} : v ∈ hvK false 104 ↔ 12 ≤ v ∧ v < 220 ∧ v % 2 = 0 := by
  unfold hvK hvar
  rw [List.mem_map]
  constructor
  · rintro ⟨i, hi, rfl⟩
    have := List.mem_range.1 hi
    simp; omega
  · rintro ⟨h1, h2, h3⟩
    exact ⟨(v - 12) / 2, List.mem_range.2 (by omega), by simp; omega⟩
theorem hvK_nodup : (hvK false 104).Nodup := by decide +kernel

set_option maxRecDepth 100000 in
set_option maxHeartbeats 1000000 in
theorem Count_bad {p : Nat} {M : Mgr} {L : Lay} (f : Int) (vs : List Nat) (hl : vs.length ≤ 1000000) (hlv : ∀ v, v ∈ vs → v < M.n) (hf : M.valid f = true) (hsup : ¬ ∀ v, v ∈ M.supM f → v ∈ vs) {dv : Value} {w : World} (R : Rep w p M L) (hn : M.n ≤ 256) (hd : SrcAt w dv 1 vs.length (vs.map natV)) :
    Calls Tryd.prog 64 #[ptr p, .int .i64 f, dv] w fun e w' => e = .returned (.tuple #[.int .u64 0, .int .u64 0, .int .i64 1]) ∧ Kp No w w' := by
  have CM := Lib.hid (complete_ok f vs hl hlv hf R hn hd false ⟨fun h => (by cases h), fun h => absurd h.2 hsup⟩)
  obtain ⟨ao, cp, rfl⟩ := hd.form
  clear hlv hf hsup R hn hd
  go_enter Tryd.func64, Tryd.ntmps64
  go_wp2_with fail
  refine CM.out.mono ?_
  rintro e w1 ⟨rfl, k1⟩
  have K1 := Lib.hid k1
  clear k1 CM
  go_wp2_with fail
  refine bodyPost_ret (v := .tuple #[.int .u64 0, .int .u64 0, .int .i64 1]) (by simp [results, Tryd.results64, go_sem]) rfl ⟨rfl, K1.out⟩

set_option maxRecDepth 100000 in
set_option maxHeartbeats 1000000 in
theorem HCount_gen {p : Nat} (f : Int) (x y z : Value) {w : World}
    (CQ : ∀ (w1 : World) (a : Option Addr) (c : Nat), Kp No w w1 → SrcAt w1 (.slice a 104 c) 1 (hvK false 104).length ((hvK false 104).map natV) → Calls Tryd.prog 64 #[ptr p, .int .i64 f, .slice a 104 c] w1 fun e w' => e = .returned (.tuple #[x, y, z]) ∧ Kp No w1 w') :
    Calls Tryd.prog 34 #[ptr p, .int .i64 f] w fun e w' => e = .returned (.tuple #[x, y, z]) ∧ Kp No w w' := by
  have HV0 := Lib.hid (hvars_ok false)
  have CH := Lib.hid CQ
  clear CQ
  go_enter Tryd.func34, Tryd.ntmps34
  go_wp2_with fail
  refine (HV0.out w).mono ?_
  rintro e w1 ⟨a, c, rfl, r1, k1⟩
  have K1 := Lib.hid k1
  have C1 := Lib.hid (CH.out w1 a c k1 (by rw [hvK_len]; exact SrcAt.of_row r1))
  clear r1 k1 CH HV0
  go_wp2_with fail
  refine C1.out.mono ?_
  rintro e w2 ⟨rfl, k2⟩
  have K2 := Lib.hid (K1.out.trans_no k2)
  clear k2 C1
  go_wp2_with fail
  refine bodyPost_ret (v := .tuple #[x, y, z]) (by simp [results, Tryd.results34, go_sem]) rfl ⟨rfl, K2.out⟩

/-- 'Count' of a set of current packets. -/
theorem HCount_ok {p c : Nat} {M : Mgr} {L : Lay} {B : List (Int × Bfn)} {f : Int} {F : Bfn} {w : World} (R : Rep w p M L) (b : Qk 220 c M B) (hf : (f, F) ∈ B) (hF : ∀ v, v < 220 → (v < 12 ∨ v % 2 = 1) → ∀ a, F (Mgr.upd a v false) = F (Mgr.upd a v true)) :
    Calls Tryd.prog 34 #[ptr p, .int .i64 f] w fun e w' => e = .returned (.tuple #[.int .u64 ((cntL F (hvK false 104) / 2 ^ 64 : Nat) : Int), .int .u64 ((cntL F (hvK false 104) % 2 ^ 64 : Nat) : Int), .int .i64 0]) ∧ Kp No w w' := by
  obtain ⟨hv1, hs⟩ := b.at hf
  obtain ⟨k, rfl, sk, _⟩ := Mgr.valid_nat b.wf hv1
  have e : M.sem k = F := funext fun x => by have := hs x; rw [Int.toNat_natCast] at this; exact this
  have sup : ∀ v, v ∈ M.supM (k : Int) → v ∈ hvK false 104 := fun v hv => by
    unfold Mgr.supM at hv
    rw [if_pos hv1, Int.toNat_natCast] at hv
    obtain ⟨hvn, a, ha⟩ := (Mgr.supp_iff b.wf sk v).1 hv
    rw [b.nn] at hvn
    rw [e] at ha
    by_cases h : v < 12 ∨ v % 2 = 1
    · exact (ha (hF v hvn h a)).elim
    · exact mem_hvK.2 ⟨by omega, by omega, by omega⟩
  refine HCount_gen _ _ _ _ (fun w1 a cc k1 hd => ?_)
  have := Count_ok k (hvK false 104) (by rw [hvK_len]; omega) (by rw [hvK_len]; omega) (fun v hv => by rw [b.nn]; exact hvK_lt v hv) hvK_nodup sk hv1 sup (R.no k1) (by rw [b.nn]; omega) hd
  rw [e] at this
  exact this
/-- .. of a set that reads more. -/
theorem HCount_bad {p c : Nat} {M : Mgr} {L : Lay} {B : List (Int × Bfn)} {f : Int} {F : Bfn} {w : World} (R : Rep w p M L) (b : Qk 220 c M B) (hf : (f, F) ∈ B) {v : Nat} (hv : v < 220) (h : v < 12 ∨ v % 2 = 1) {a : Nat → Bool} (ha : F (Mgr.upd a v false) ≠ F (Mgr.upd a v true)) :
    Calls Tryd.prog 34 #[ptr p, .int .i64 f] w fun e w' => e = .returned (.tuple #[.int .u64 0, .int .u64 0, .int .i64 1]) ∧ Kp No w w' := by
  obtain ⟨hv1, hs⟩ := b.at hf
  obtain ⟨k, rfl, sk, _⟩ := Mgr.valid_nat b.wf hv1
  have e : M.sem k = F := funext fun x => by have := hs x; rw [Int.toNat_natCast] at this; exact this
  have hm : v ∈ M.supM (k : Int) := by
    unfold Mgr.supM
    rw [if_pos hv1, Int.toNat_natCast]
    exact (Mgr.supp_iff b.wf sk v).2 ⟨by rw [b.nn]; exact hv, a, by rw [e]; exact ha⟩
  refine HCount_gen _ _ _ _ (fun w1 a cc k1 hd => ?_)
  have := Count_bad (k : Int) (hvK false 104) (by rw [hvK_len]; omega) (fun v hv => by rw [b.nn]; exact hvK_lt v hv) hv1 (fun hall => by
    have := mem_hvK.1 (hall v hm)
    omega) (R.no k1) (by rw [b.nn]; omega) hd
  exact this

end Go.Proofs.YtohinonkfhkclaaDoor
