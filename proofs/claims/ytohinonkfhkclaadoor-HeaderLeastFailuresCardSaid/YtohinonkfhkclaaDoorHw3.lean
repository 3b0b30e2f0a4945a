/-
  Walks: 'get', 'Decode' of the package header.
-/
import Derived.Test.YtohinonkfhkclaaDoorHp
import Derived.Test.YtohinonkfhkclaaDoorTab
import Derived.Deep.LoopGhost
namespace Go.Proofs.YtohinonkfhkclaaDoor
open Go.RowKit

theorem Gl.f {w : World} (g : Gl w) {k : Nat} (hk : k < 5) : w.cell? ⟨0, 2 * k, none⟩ = some (.int .i64 (ff k : Int)) ∧ w.cell? ⟨0, 2 * k + 1, none⟩ = some (.int .i64 (fw k : Int)) := by
  refine ⟨?_, ?_⟩
  · rw [g (2 * k) (by omega)]; rcases five hk with rfl | rfl | rfl | rfl | rfl <;> rfl
  · rw [g (2 * k + 1) (by omega)]; rcases five hk with rfl | rfl | rfl | rfl | rfl <;> rfl

set_option maxRecDepth 100000 in
theorem Width_in (k : Nat) (hk : k < 5) {w : World} (g : Gl w) : Calls Tryd.prog 51 #[.int .i64 (k : Int)] w fun e w' => e = .returned (.int .i64 (fw k : Int)) ∧ w = w' := by
  have hc := (g.f hk).2
  rcases five hk with rfl | rfl | rfl | rfl | rfl
  all_goals
    go_enter Tryd.func51, Tryd.ntmps51
    go_wp2_with fail
    go_ret
    exact ⟨rfl, rfl⟩

set_option maxRecDepth 100000 in
theorem Width_out (k : Int) (hk : ¬ (0 ≤ k ∧ k < 5)) (w : World) : Calls Tryd.prog 51 #[.int .i64 k] w fun e w' => e = .returned (.int .i64 0) ∧ w = w' := by
  by_cases h0 : k < 0
  · go_enter Tryd.func51, Tryd.ntmps51
    go_wp2_with fail
    go_ret
    exact ⟨rfl, rfl⟩
  · have h5 : 5 ≤ k := by omega
    go_enter Tryd.func51, Tryd.ntmps51
    go_wp2_with fail
    go_ret
    exact ⟨rfl, rfl⟩

set_option maxRecDepth 100000 in
theorem variable_ok' (b : Nat) (nx : Bool) (hb : b ≤ 1000) (w : World) : Calls Tryd.prog 73 #[.int .i64 (b : Int), .bool nx] w fun e w' => e = .returned (.int .i64 (hvar b nx : Int)) ∧ w = w' := by
  have e : (hvar b nx : Int) = 12 + 2 * (b : Int) + (if nx then 1 else 0) := by unfold hvar; cases nx <;> simp
  rw [e]
  cases nx
  all_goals
    go_enter Tryd.func73, Tryd.ntmps73
    go_wp2_with fail
    go_ret
    exact ⟨by simp, rfl⟩

set_option maxRecDepth 100000 in
theorem HVar_in (k b : Nat) (nx : Bool) (hk : k < 5) (hb : b < fw k) {w : World} (g : Gl w) : Calls Tryd.prog 52 #[.int .i64 (k : Int), .int .i64 (b : Int), .bool nx] w fun e w' => e = .returned (.int .i64 (fvar k b nx : Int)) ∧ w = w' := by
  have hc := (g.f hk).1
  have W := Lib.hid (Width_in k hk g)
  have V := Lib.hid (variable_ok' (ff k + b) nx (by have := ff_fw hk; omega) w)
  have hbi : (b : Int) < (fw k : Int) := by omega
  have hb0 : ¬ (b : Int) < 0 := by omega
  have hle := fw_le k
  have hff := ff_fw hk
  unfold fvar
  generalize fw k = f at *
  generalize hvar (ff k + b) nx = r at *
  have hn : ¬ ((f : Int) ≤ (b : Int)) := by omega
  clear g hb
  rcases five hk with rfl | rfl | rfl | rfl | rfl
  all_goals
    go_enter Tryd.func52, Tryd.ntmps52
    go_wp2_with fail
    refine W.out.mono ?_
    rintro e w' ⟨rfl, rfl⟩
    go_wp2_with fail
    first
    | refine V.out.mono ?_
    | (have e := V.out; simp only [ff, List.getD, Nat.zero_add, Int.natCast_add] at e; refine Calls.mono e ?_)
    rintro e w' ⟨rfl, rfl⟩
    go_wp2_with fail
    go_ret
    exact ⟨rfl, rfl⟩

end Go.Proofs.YtohinonkfhkclaaDoor

namespace Go.Proofs.YtohinonkfhkclaaDoor
open Go.RowKit

theorem bit_of {k : IntKind} {j : Nat} (hj : j ≤ k.bits) (hj1 : 1 ≤ j) (hk : ∀ n : Int, 0 ≤ n → n < 2 ^ j → k.wrap n = n) {x s : Nat} (hx : x < 2 ^ j) : (bits BinOp.and k ((x : Int) / 2 ^ s) 1 == 1) = x.testBit s := by
  have h : (x : Int) / 2 ^ s = ((x / 2 ^ s : Nat) : Int) := by simp
  have hlt : x / 2 ^ s < 2 ^ j := Nat.lt_of_le_of_lt (Nat.div_le_self _ _) hx
  have := bits_mask k j hj hk 1 hj1 ((x / 2 ^ s : Nat) : Int) (Int.natCast_nonneg _) (by exact_mod_cast hlt)
  rw [h, show (1 : Int) = 2 ^ 1 - 1 from rfl, this, Nat.testBit_eq_decide_div_mod_eq]
  generalize x / 2 ^ s = y
  rw [Bool.eq_iff_iff]
  simp
  omega
theorem bit_u32 {x s : Nat} (hx : x < 4294967296) : (bits BinOp.and IntKind.u32 ((x : Int) / 2 ^ s) 1 == 1) = x.testBit s :=
  bit_of (j := 32) (by decide) (by omega) (fun n a b => by rw [IntKind.wrap_u32]; omega) hx

def pktV (p : Pkt) : Value := .agg #[.int .u32 (p.src : Int), .int .u32 (p.dst : Int), .int .i64 p.proto, .int .i64 p.sport, .int .i64 p.dport]
def valsV (p : Pkt) : Value := .agg #[.int .u32 (p.f 0 : Int), .int .u32 (p.f 1 : Int), .int .u32 (p.f 2 : Int), .int .u32 (p.f 3 : Int), .int .u32 (p.f 4 : Int)]
theorem u32_wrap (x : Int) : IntKind.u32.wrap x = (u32 x : Int) := by rw [IntKind.wrap_u32]; unfold u32; omega
theorem u32_lt (x : Int) : u32 x < 4294967296 := by unfold u32; omega
structure Pkt.in32 (p : Pkt) : Prop where
  h0 : p.src < 4294967296
  h1 : p.dst < 4294967296
theorem Pkt.in32.f {p : Pkt} (h : p.in32) {k : Nat} (hk : k < 5) : p.f k < 4294967296 := by
  rcases five hk with rfl | rfl | rfl | rfl | rfl
  · exact h.h0
  · exact h.h1
  · exact u32_lt _
  · exact u32_lt _
  · exact u32_lt _
theorem Pkt.ok.in32 {p : Pkt} (h : p.ok) : p.in32 := ⟨h.h0, h.h1⟩

set_option maxRecDepth 100000 in
theorem values_ok (p : Pkt) (w : World) : Calls Tryd.prog 55 #[pktV p] w fun e w' => e = .returned (valsV p) ∧ Kp No w w' := by
  unfold pktV
  go_enter Tryd.func55, Tryd.ntmps55
  go_wp2_with fail
  refine bodyPost_ret (v := valsV p) ?_ rfl ⟨rfl, ?_⟩
  · unfold valsV
    simp [results, Tryd.results55, go_sem]
    refine ⟨rfl, rfl, ?_, ?_, ?_⟩
    · show _ = ((u32 p.proto : Nat) : Int); unfold u32; omega
    · show _ = ((u32 p.sport : Nat) : Int); unfold u32; omega
    · show _ = ((u32 p.dport : Nat) : Int); unfold u32; omega
  · exact (Kp.alloc _).trans_no (Kp.alloc _)

set_option maxRecDepth 100000 in
theorem index_vals (p : Pkt) {k : Nat} (hk : k < 5) (w : World) : (Instr.index 93 (.agg #[.int .u32 (p.f 0 : Int), .int .u32 (p.f 1 : Int), .int .u32 (p.f 2 : Int), .int .u32 (p.f 3 : Int), .int .u32 (p.f 4 : Int)]) (.int .i64 (k : Int))).run Tryd.prog w = .ok (.int .u32 (p.f k : Int)) w := by
  have h27 : Tryd.prog.cellsOf 40 = 1 := by kernel_rfl
  rcases five hk with rfl | rfl | rfl | rfl | rfl <;> rfl

/-! ### a row of values of a function -/
def boolRow (G : Nat → Bool) : List Value := (List.range 220).map fun v => .bool (G v)
theorem boolRow_len (G : Nat → Bool) : (boolRow G).length = 220 := by simp [boolRow]
theorem boolRow_at (G : Nat → Bool) {v : Nat} (h : v < 220) : (boolRow G)[v]? = some (.bool (G v)) := by simp [boolRow, h]
theorem boolRow_set (G : Nat → Bool) (v : Nat) (b : Bool) : (boolRow G).set v (.bool b) = boolRow (Mgr.upd G v b) := by
  apply List.ext_getElem?
  intro i
  by_cases hi : i < 220
  · rw [boolRow_at _ hi]
    by_cases e : v = i
    · subst e; rw [List.getElem?_set_self (by rw [boolRow_len]; exact hi)]; simp
    · rw [List.getElem?_set_ne e, boolRow_at _ hi, Mgr.upd_other _ _ _ _ (Ne.symm e)]
  · rw [List.getElem?_eq_none (by rw [List.length_set, boolRow_len]; omega), List.getElem?_eq_none (by rw [boolRow_len]; omega)]

/-- The array of an assignment while it is filled. -/
structure PutJ (w : World) (B g : Nat) (G : Nat → Bool) (wr : World) : Prop where
  row : wr.ownsRow B 4 1 (.slice (some ⟨g, 0, none⟩) 220 220) 220 (boolRow G)
  kp : Kp (fun x => x = g) w wr
  gl : Gl wr
  ne : 0 ≠ g
theorem PutJ.no {w : World} {B g : Nat} {G : Nat → Bool} {wr w' : World} (j : PutJ w B g G wr) (k : Kp No wr w') : PutJ w B g G w' := ⟨ownsRow_kp j.row k (fun _ _ x => x), j.kp.trans_no k, j.gl.no k, j.ne⟩
theorem PutJ.cell {w : World} {B g : Nat} {G : Nat → Bool} {wr : World} (j : PutJ w B g G wr) {v : Nat} (hv : v < 220) : wr.cell? ⟨g, v, none⟩ = some (.bool (G v)) ∧ wr.frozen? ⟨g, v, none⟩ = false := by
  obtain ⟨g', c, hq, _, _, _, hc, hz⟩ := ownsRow_open j.row (by omega)
  cases hq
  exact ⟨hc v _ (boolRow_at G hv), hz v⟩
theorem PutJ.put {w : World} {B g : Nat} {G : Nat → Bool} {wr : World} (j : PutJ w B g G wr) (v : Nat) (b : Bool) : PutJ w B g (Mgr.upd G v b) (wr.setCell ⟨g, v, none⟩ (.bool b)) := by
  refine ⟨?_, ?_, j.gl.kp (Kp.setCell _ _) j.ne, j.ne⟩
  · have := ownsRow_put j.row v (.bool b)
    rw [boolRow_set] at this
    exact this
  · exact j.kp.trans (A' := fun x => x = g) (fun x e => .inl e) ((Kp.setCell _ _).mono (fun _ _ e => e))
theorem PutJ.congr {w : World} {B g : Nat} {G H : Nat → Bool} {wr : World} (j : PutJ w B g G wr) (e : ∀ v, v < 220 → G v = H v) : PutJ w B g H wr := by
  have : boolRow G = boolRow H := by
    unfold boolRow
    exact List.map_congr_left (fun v hv => by rw [e v (List.mem_range.1 hv)])
  exact ⟨this ▸ j.row, j.kp, j.gl, j.ne⟩

/-- The first t bits of a header are written. -/
def putG (G : Nat → Bool) (p : Pkt) (nx : Bool) (t : Nat) (v : Nat) : Bool := if 12 ≤ v ∧ (v - 12) % 2 = (if nx then 1 else 0) ∧ (v - 12) / 2 < t then p.bit ((v - 12) / 2) else G v
theorem putG_zero (G : Nat → Bool) (p : Pkt) (nx : Bool) : putG G p nx 0 = G := by funext v; unfold putG; rw [if_neg (by omega)]
theorem putG_succ (G : Nat → Bool) (p : Pkt) (nx : Bool) (t : Nat) : Mgr.upd (putG G p nx t) (hvar t nx) (p.bit t) = putG G p nx (t + 1) := by
  funext v
  unfold Mgr.upd
  have e := hvar
  by_cases hv : v = hvar t nx
  · subst hv
    rw [if_pos rfl]
    unfold putG hvar
    cases nx
    · have h1 : (12 + 2 * t + 0 - 12) / 2 = t := by omega
      rw [if_pos ⟨by simp, by simp, by simp⟩]
      simp
    · have h1 : (12 + 2 * t + 1 - 12) / 2 = t := by omega
      simp only [if_true]
      rw [if_pos ⟨by omega, by omega, by omega⟩, h1]
  · rw [if_neg hv]
    unfold putG
    unfold hvar at hv
    by_cases h : 12 ≤ v ∧ (v - 12) % 2 = (if nx then 1 else 0) ∧ (v - 12) / 2 < t
    · rw [if_pos h, if_pos ⟨h.1, h.2.1, by omega⟩]
    · rw [if_neg h, if_neg]
      rintro ⟨h1, h2, h3⟩
      apply h
      refine ⟨h1, h2, ?_⟩
      cases nx <;> simp at hv h2 ⊢ <;> omega
def fsum (k : Nat) : Nat := [0, 32, 64, 72, 88, 104].getD k 0
theorem fsum_lt {k : Nat} (h : k < 5) : fsum k = ff k ∧ fsum (k + 1) = ff k + fw k := by rcases five h with rfl | rfl | rfl | rfl | rfl <;> decide

def PutO (w : World) (B g : Nat) (G : Nat → Bool) (p : Pkt) (nx : Bool) (gk : Nat) (s : Value) (wr : World) : Prop := ∃ k, k + gk = 5 ∧ s = .int .i64 (k : Int) ∧ PutJ w B g (putG G p nx (fsum k)) wr
def PutI (w : World) (B g : Nat) (G : Nat → Bool) (p : Pkt) (nx : Bool) (k f gk : Nat) (s : Value) (wr : World) : Prop := ∃ b, b + gk = f ∧ s = .int .i64 (b : Int) ∧ PutJ w B g (putG G p nx (ff k + b)) wr

set_option maxRecDepth 100000 in
set_option maxHeartbeats 2000000 in
theorem put_ok (p : Pkt) (nx : Bool) (hp : p.in32) {w0 w : World} {B g : Nat} {G : Nat → Bool} (j : PutJ w0 B g G w) :
    Calls Tryd.prog 63 #[.slice (some ⟨g, 0, none⟩) 220 220, pktV p, .bool nx] w fun e w' => e = .returned (.tuple #[]) ∧ PutJ w0 B g (putG G p nx 104) w' := by
  have VAL := Lib.hid (fun w => values_ok p w)
  have J := Lib.hid j
  have HP := Lib.hid hp
  clear j hp
  unfold pktV at VAL ⊢
  go_enter Tryd.func63, Tryd.ntmps63
  go_wp2_with fail
  refine (VAL.out _).mono ?_
  rintro e w1 ⟨rfl, k1⟩
  have J0 : Hid (PutO w0 B g G p nx 5 (.int .i64 0) w1) := Lib.hid ⟨0, by omega, rfl, by rw [show fsum 0 = 0 from rfl, putG_zero]; exact J.out.no ((Kp.alloc _).trans_no k1)⟩
  clear k1 J VAL
  unfold valsV
  go_wp2_with fail
  go_loopg [11] 5 (fun gk s wr => PutO w0 B g G p nx gk s wr)
  case atStart => exact J0.out
  case round =>
    clear J0
    obtain ⟨k, hk, rfl, j⟩ := hrel
    by_cases hlt : k < 5
    · have J := Lib.hid j
      have HK := Lib.hid hk
      obtain ⟨e1, e2⟩ := fsum_lt hlt
      have JI : Hid (PutI w0 B g G p nx k (fw k) (fw k) (.int .i64 0) wr) := Lib.hid ⟨0, by omega, rfl, by rw [← e1]; exact j⟩
      have hf32 := HP.out.f hlt
      have W := Lib.hid (fun (x : World) (h : Gl x) => Width_in k hlt h)
      have V := Lib.hid (fun (x : World) (h : Gl x) (b : Nat) (hb : b < fw k) => HVar_in k b nx hlt hb h)
      have E2 := Lib.hid e2
      have BIT := Lib.hid (fun (b : Nat) (hb : b < fw k) => p.bit_at hlt hb)
      have hfw := fw_le k
      have hff := ff_fw hlt
      generalize fw k = f at *
      have hidx := index_vals p hlt wr
      have hlti : (k : Int) < 5 := by omega
      generalize p.f k = x at *
      clear hk j e1 e2
      go_wp2_with fail
      refine (W.out wr J.out.gl).mono ?_
      rintro e w' ⟨rfl, rfl⟩
      clear hidx J
      go_wp2_with fail
      go_loopg [17] f (fun gk s wr => PutI w0 B g G p nx k f gk s wr)
      case atStart => exact JI.out
      case round =>
        clear JI
        obtain ⟨b, hb, rfl, j⟩ := hrel
        by_cases hbl : b < f
        · have hv : fvar k b nx < 220 := hvar_lt (by omega) nx
          have HB := Lib.hid hb
          have hbi : (b : Int) < f := by omega
          obtain ⟨c1, z1⟩ := j.cell hv
          have hsh : (bits BinOp.and IntKind.u32 ((x : Int) / 2 ^ (f - 1 - b)) 1 == 1) = p.bit (ff k + b) := by
            rw [BIT.out b hbl]
            exact bit_u32 hf32
          have JN : Hid (PutJ w0 B g (putG G p nx (ff k + b + 1)) (wr.setCell ⟨g, fvar k b nx, none⟩ (.bool (p.bit (ff k + b))))) := Lib.hid (by
            have := j.put (fvar k b nx) (p.bit (ff k + b))
            unfold fvar at this ⊢
            rw [putG_succ] at this
            exact this)
          have VB := Lib.hid (V.out wr j.gl b hbl)
          have GLW := Lib.hid j.gl
          have hvi : (fvar k b nx : Int) < 220 := by omega
          clear hb j hv
          generalize fvar k b nx = v at *
          generalize putG G p nx (ff k + b) v = old at *
          generalize p.bit (ff k + b) = bb at *
          go_wp2_with fail
          refine VB.out.mono ?_
          rintro e w' ⟨rfl, rfl⟩
          go_wp2_with fail
          refine (W.out _ GLW.out).mono ?_
          rintro e w' ⟨rfl, rfl⟩
          go_wp2_with fail
          go_roundg (f - (b + 1))
          case measure => have := HB.out; omega
          case rel => exact ⟨b + 1, by omega, by go_num, JN.out⟩
        · obtain rfl : b = f := by omega
          have JN : Hid (PutO w0 B g G p nx (5 - (k + 1)) (.int .i64 ((k + 1 : Nat) : Int)) wr) := Lib.hid ⟨k + 1, by omega, rfl, by rw [E2.out]; exact j⟩
          have hbi : ¬ (b : Int) < b := by omega
          clear hb j hbl
          go_wp2_with fail
          go_roundg (5 - (k + 1))
          case measure => have := HK.out; omega
          case rel => exact JN.out
    · obtain rfl : k = 5 := by omega
      have J := Lib.hid j
      clear j hk hlt
      go_wp2_with fail
      go_end0
      exact ⟨rfl, J.out⟩

theorem encG (dn : Nat → Bool) (p q : Pkt) (v : Nat) (hv : v < 220) : putG (putG (fun v => decide (v < 12) && dn v) p false 104) q true 104 v = encF dn p q v := by
  unfold putG encF
  by_cases h : v < 12
  · rw [if_neg (by omega), if_neg (by omega), if_pos h]; simp [h]
  · rw [if_neg h]
    by_cases h2 : (v - 12) % 2 = 0
    · rw [if_neg (by simp; omega), if_pos ⟨by omega, by simpa using h2, by omega⟩, if_pos h2]
    · rw [if_pos ⟨by omega, by simp; omega, by omega⟩, if_neg h2]

/-- 'Encode'. -/
def dnF (l : List Int) (v : Nat) : Bool := decide ((v : Int) ∈ l)
def EncPost (w : World) (G : Nat → Bool) (e : Ending) (w' : World) : Prop := ∃ g, e = .returned (.slice (some ⟨g, 0, none⟩) 220 220) ∧ w'.ownsRow w.heap.size 4 1 (.slice (some ⟨g, 0, none⟩) 220 220) 220 (boolRow G) ∧ Kp No w w'
def EncR (w : World) (B g : Nat) (l : List Int) (gk : Nat) (s : Value) (wr : World) : Prop := ∃ k, k + gk = l.length ∧ s = .int .i64 (k : Int) ∧ PutJ w B g (fun v => decide (v < 12) && dnF (l.take k) v) wr

theorem make_bools (w : World) : ∃ w1, (Instr.makeSlice 57 (.int .i64 220) (.int .i64 220)).run Tryd.prog w = .ok (.slice (some ⟨w.heap.size, 0, none⟩) 220 220) w1 ∧ w1.ownsRow w.heap.size 4 1 (.slice (some ⟨w.heap.size, 0, none⟩) 220 220) 220 (boolRow (fun _ => false)) ∧ Kp No w w1 := by
  obtain ⟨j0, hj0, hy0, hy1, hy2⟩ := info_parts info_bool
  obtain ⟨w1, hrun, r1, r2⟩ := run_make_full (P := Tryd.prog) w w.heap.size 57 4 j0 _ 1 Tryd.underlying57 hj0 hy0 hy1 .i64 .i64 220 (by rw [hy2]; omega) (by rw [maxLen_val]; omega) (Nat.le_refl _)
  refine ⟨w1, hrun, ?_, (Kp.grown r2).mono (fun k _ e => by cases e)⟩
  rw [made_false] at r1
  have : boolRow (fun _ => false) = List.replicate (220 * 1) (.bool false) := by
    apply List.ext_getElem?
    intro i
    simp only [boolRow, List.getElem?_map, List.getElem?_replicate]
    by_cases h : i < 220 <;> simp [h]
  rw [this]
  exact r1

theorem enc_step (l : List Int) {k : Nat} (hk : k < l.length) {v : Nat} (hx : l.getD k 0 = (v : Int)) (hv : v < 12) : (Mgr.upd (fun v => decide (v < 12) && dnF (l.take k) v) v true) = fun v => decide (v < 12) && dnF (l.take (k + 1)) v := by
  funext u
  have e : l.take (k + 1) = l.take k ++ [l.getD k 0] := by rw [List.take_succ_eq_append_getElem hk]; simp [hk]
  unfold Mgr.upd dnF
  rw [e, hx]
  by_cases h : u = v
  · subst h; simp [hv]
  · rw [if_neg h]
    have : ((u : Int) ∈ l.take k ++ [(v : Int)]) ↔ (u : Int) ∈ l.take k := by simp; omega
    simp only [this]
theorem enc_skip (l : List Int) {k : Nat} (hk : k < l.length) (hx : ¬ (0 ≤ l.getD k 0 ∧ l.getD k 0 < 12)) : (fun v => decide (v < 12) && dnF (l.take k) v) = fun v => decide (v < 12) && dnF (l.take (k + 1)) v := by
  funext u
  have e : l.take (k + 1) = l.take k ++ [l.getD k 0] := by rw [List.take_succ_eq_append_getElem hk]; simp [hk]
  unfold dnF
  rw [e]
  by_cases h : u < 12
  · have : ((u : Int) ∈ l.take k ++ [l.getD k 0]) ↔ (u : Int) ∈ l.take k := by
      rw [List.mem_append, List.mem_singleton]
      constructor
      · rintro (h1 | h1)
        · exact h1
        · exact (hx (by omega)).elim
      · exact .inl
    simp only [this]
  · simp [h]

/-- A packet in memory. -/
structure PkAt (w : World) (b : Nat) (p : Pkt) : Prop where
  c0 : w.cell? ⟨b, 0, none⟩ = some (.int .u32 (p.src : Int))
  c1 : w.cell? ⟨b, 1, none⟩ = some (.int .u32 (p.dst : Int))
  c2 : w.cell? ⟨b, 2, none⟩ = some (.int .i64 p.proto)
  c3 : w.cell? ⟨b, 3, none⟩ = some (.int .i64 p.sport)
  c4 : w.cell? ⟨b, 4, none⟩ = some (.int .i64 p.dport)
theorem PkAt.kp {A : Nat → Prop} {w w' : World} {b : Nat} {p : Pkt} (h : PkAt w b p) (k : Kp A w w') (hn : ¬ A b) : PkAt w' b p := by
  have hb : b < w.heap.size := World.block_lt_of_cell? _ _ h.c0
  exact ⟨by rw [k.cell hb hn]; exact h.c0, by rw [k.cell hb hn]; exact h.c1, by rw [k.cell hb hn]; exact h.c2, by rw [k.cell hb hn]; exact h.c3, by rw [k.cell hb hn]; exact h.c4⟩
theorem PkAt.no {w w' : World} {b : Nat} {p : Pkt} (h : PkAt w b p) (k : Kp No w w') : PkAt w' b p := h.kp k (fun x => x)
theorem PkAt.new (w : World) (p : Pkt) (t : TypeId) : PkAt (w.alloc (.cells #[.int .u32 (p.src : Int), .int .u32 (p.dst : Int), .int .i64 p.proto, .int .i64 p.sport, .int .i64 p.dport] t)) w.heap.size p := by
  have h := heap_alloc_new w (.cells #[.int .u32 (p.src : Int), .int .u32 (p.dst : Int), .int .i64 p.proto, .int .i64 p.sport, .int .i64 p.dport] t)
  exact ⟨by rw [cell_of_row _ _ _ _ _ _ h]; rfl, by rw [cell_of_row _ _ _ _ _ _ h]; rfl, by rw [cell_of_row _ _ _ _ _ _ h]; rfl, by rw [cell_of_row _ _ _ _ _ _ h]; rfl, by rw [cell_of_row _ _ _ _ _ _ h]; rfl⟩

set_option maxRecDepth 100000 in
set_option maxHeartbeats 2000000 in
theorem Encode_ok (l : List Int) (p q : Pkt) (hp : p.in32) (hq : q.in32) {dv : Value} {w : World} (g : Gl w) (hd : SrcAt w dv 1 l.length (l.map intV)) (hl : l.length ≤ 1000000) :
    Calls Tryd.prog 32 #[dv, pktV p, pktV q] w (EncPost w (encF (dnF l) p q)) := by
  obtain ⟨mk, hmk⟩ := Classical.axiomOfChoice make_bools
  have HMK := Lib.hid (fun W => (hmk W).2)
  have hrun := fun W => (hmk W).1
  have GLW := Lib.hid g
  have HD := Lib.hid hd
  have PUTP := Lib.hid (fun (w0 w : World) (B g : Nat) (G : Nat → Bool) (j : PutJ w0 B g G w) => put_ok p false hp j)
  have PUTQ := Lib.hid (fun (w0 w : World) (B g : Nat) (G : Nat → Bool) (j : PutJ w0 B g G w) => put_ok q true hq j)
  have EG := Lib.hid (encG (dnF l) p q)
  obtain ⟨ao, c, rfl, _⟩ := hd
  clear hmk g hp hq
  unfold pktV at PUTP PUTQ ⊢
  go_enter Tryd.func32, Tryd.ntmps32
  have PP := Lib.hid ((PkAt.new w p 48).no (Kp.alloc (.cells #[.int .u32 (q.src : Int), .int .u32 (q.dst : Int), .int .i64 q.proto, .int .i64 q.sport, .int .i64 q.dport] 48)))
  have PQ := Lib.hid (PkAt.new (w.alloc (.cells #[.int .u32 (p.src : Int), .int .u32 (p.dst : Int), .int .i64 p.proto, .int .i64 p.sport, .int .i64 p.dport] 48)) q 48)
  have KW := Lib.hid ((Kp.alloc (w := w) (.cells #[.int .u32 (p.src : Int), .int .u32 (p.dst : Int), .int .i64 p.proto, .int .i64 p.sport, .int .i64 p.dport] 48)).trans_no (Kp.alloc (.cells #[.int .u32 (q.src : Int), .int .u32 (q.dst : Int), .int .i64 q.proto, .int .i64 q.sport, .int .i64 q.dport] 48)))
  have HSZ : ((w.alloc (.cells #[.int .u32 (p.src : Int), .int .u32 (p.dst : Int), .int .i64 p.proto, .int .i64 p.sport, .int .i64 p.dport] 48)).alloc (.cells #[.int .u32 (q.src : Int), .int .u32 (q.dst : Int), .int .i64 q.proto, .int .i64 q.sport, .int .i64 q.dport] 48)).heap.size = w.heap.size + 2 := by simp
  go_wp2_with fail
  generalize (w.alloc (.cells #[.int .u32 (p.src : Int), .int .u32 (p.dst : Int), .int .i64 p.proto, .int .i64 p.sport, .int .i64 p.dport] 48)).alloc (.cells #[.int .u32 (q.src : Int), .int .u32 (q.dst : Int), .int .i64 q.proto, .int .i64 q.sport, .int .i64 q.dport] 48) = wB at *
  have J0 : Hid (EncR wB w.heap.size (w.heap.size + 2) l l.length (.int .i64 0) (mk wB)) := Lib.hid (by
    obtain ⟨r1, k1⟩ := HMK.out wB
    rw [HSZ] at r1
    have hlt := GLW.out.lt
    refine ⟨0, by omega, rfl, ?_, k1.of_no, (GLW.out.no KW.out).no k1, by omega⟩
    have e : (fun v => decide (v < 12) && dnF (l.take 0) v) = fun _ => false := by funext v; simp [dnF]
    rw [e]
    rcases r1.2 with ⟨hx, _⟩ | ⟨g, cap, cur, hv, hg, r⟩
    · cases hx
    · exact ⟨r1.1, .inr ⟨g, cap, cur, hv, by omega, r⟩⟩)
  have PQ' : Hid (PkAt wB (w.heap.size + 1) q) := Lib.hid (by have := PQ.out; simpa using this)
  have HSZ' := Lib.hid HSZ
  clear hrun PQ HSZ HMK
  go_loopg [13] l.length (fun gk s wr => EncR wB w.heap.size (w.heap.size + 2) l gk s wr)
  case atStart => exact J0.out
  case round =>
    clear J0
    obtain ⟨k, hk, rfl, j⟩ := hrel
    by_cases hlt : k < l.length
    · have kw : Kp No w wr := KW.out.trans (A' := fun x => x = w.heap.size + 2) (fun x e => .inr (by omega)) j.kp
      obtain ⟨ao', c', hv', _, hcells⟩ := HD.out.no kw
      have hv1 : ao = ao' := by injection hv'
      subst hv1
      rcases hcells with hcells | ⟨g, o, rfl, hg, hcells⟩
      · rw [hcells] at hlt; simp at hlt
      have hc : wr.cell? ⟨g, o + k, none⟩ = some (.int .i64 (l.getD k 0)) := hcells k _ (by simp [hlt, intV])
      have FA := Lib.hid (fun (x : World) => Failure_ok (l.getD k 0) x)
      have hlti : (k : Int) < l.length := by omega
      have HK := Lib.hid hk
      by_cases hx : 0 ≤ l.getD k 0 ∧ l.getD k 0 < 12
      · obtain ⟨v, hv⟩ : ∃ v : Nat, l.getD k 0 = (v : Int) := ⟨(l.getD k 0).toNat, by omega⟩
        have hv12 : v < 12 := by omega
        obtain ⟨c1, z1⟩ := j.cell (v := v) (by omega)
        have JN : Hid (EncR wB w.heap.size (w.heap.size + 2) l (l.length - (k + 1)) (.int .i64 ((k + 1 : Nat) : Int)) (wr.setCell ⟨w.heap.size + 2, v, none⟩ (.bool true))) := Lib.hid ⟨k + 1, by omega, rfl, by
          have := j.put v true
          rw [enc_step l hlt hv hv12] at this
          exact this⟩
        rw [if_pos hx] at FA
        rw [hv] at FA hc
        have hvi : (v : Int) < 220 := by omega
        have hv0 : (0 : Int) ≤ v := by omega
        generalize (decide (v < 12) && dnF (l.take k) v) = old at *
        clear hk j kw hcells hx hv hv'
        go_wp2_with fail
        refine (FA.out _).mono ?_
        rintro e w' ⟨rfl, rfl⟩
        clear FA
        go_wp2_with fail
        go_roundg (l.length - (k + 1))
        case measure => have := HK.out; omega
        case rel => exact JN.out
      · have JN : Hid (EncR wB w.heap.size (w.heap.size + 2) l (l.length - (k + 1)) (.int .i64 ((k + 1 : Nat) : Int)) wr) := Lib.hid ⟨k + 1, by omega, rfl, by rw [← enc_skip l hlt hx]; exact j⟩
        rw [if_neg hx] at FA
        generalize l.getD k 0 = y at *
        clear hk j kw hcells hx hv'
        go_wp2_with fail
        refine (FA.out _).mono ?_
        rintro e w' ⟨rfl, rfl⟩
        clear FA
        go_wp2_with fail
        go_roundg (l.length - (k + 1))
        case measure => have := HK.out; omega
        case rel => exact JN.out
    · obtain rfl : k = l.length := by omega
      rw [List.take_length] at j
      obtain ⟨c0, c1, c2, c3, c4⟩ := PP.out.kp j.kp (by have := HSZ'.out; omega)
      have J := Lib.hid j
      have hlti : ¬ (l.length : Int) < l.length := by omega
      clear hk hlt j PP
      go_wp2_with fail
      refine (PUTP.out _ _ _ _ _ J.out).mono ?_
      rintro e w3 ⟨rfl, j3⟩
      have J3 := Lib.hid j3
      obtain ⟨d0, d1, d2, d3, d4⟩ := PQ'.out.kp j3.kp (by have := HSZ'.out; omega)
      clear c0 c1 c2 c3 c4 j3 J PQ' PUTP
      go_wp2_with fail
      refine (PUTQ.out _ _ _ _ _ J3.out).mono ?_
      rintro e w4 ⟨rfl, j4⟩
      have FIN : Hid (EncPost w (encF (dnF l) p q) (.returned (.slice (some ⟨w.heap.size + 2, 0, none⟩) 220 220)) w4) := Lib.hid ⟨_, rfl, (j4.congr EG.out).row, KW.out.trans (A' := fun x => x = w.heap.size + 2) (fun x e => .inr (by omega)) j4.kp⟩
      clear j4 d0 d1 d2 d3 d4 J3 PUTQ
      go_wp2_with fail
      go_ret
      exact FIN.out

end Go.Proofs.YtohinonkfhkclaaDoor

namespace Go.Proofs.YtohinonkfhkclaaDoor
open Go.RowKit

/-- What 'get' reads. -/
def getP (a : Nat → Bool) (nx : Bool) : Pkt := ⟨fval 0 nx a, fval 1 nx a, (fval 2 nx a : Int), (fval 3 nx a : Int), (fval 4 nx a : Int)⟩
theorem fval_hval (k : Nat) (nx : Bool) (a : Nat → Bool) : fval k nx a = hval (fun b => a (fvar k b nx)) (fw k) := by rw [hval_eq]; rfl
theorem fval_lt (k : Nat) (nx : Bool) (a : Nat → Bool) : fval k nx a < 2 ^ fw k := bval_lt _ _
theorem getP_f (a : Nat → Bool) (nx : Bool) {k : Nat} (hk : k < 5) : (getP a nx).f k = fval k nx a := by
  have h2 := fval_lt 2 nx a
  have h3 := fval_lt 3 nx a
  have h4 := fval_lt 4 nx a
  rw [show 2 ^ fw 2 = 256 from rfl] at h2
  rw [show 2 ^ fw 3 = 65536 from rfl] at h3
  rw [show 2 ^ fw 4 = 65536 from rfl] at h4
  rcases five hk with rfl | rfl | rfl | rfl | rfl
  · rfl
  · rfl
  · show u32 (fval 2 nx a : Int) = _; unfold u32; omega
  · show u32 (fval 3 nx a : Int) = _; unfold u32; omega
  · show u32 (fval 4 nx a : Int) = _; unfold u32; omega
theorem getP_ok (a : Nat → Bool) (nx : Bool) : (getP a nx).ok := by
  have h0 := fval_lt 0 nx a
  have h1 := fval_lt 1 nx a
  have h2 := fval_lt 2 nx a
  have h3 := fval_lt 3 nx a
  have h4 := fval_lt 4 nx a
  rw [show 2 ^ fw 0 = 4294967296 from rfl] at h0
  rw [show 2 ^ fw 1 = 4294967296 from rfl] at h1
  rw [show 2 ^ fw 2 = 256 from rfl] at h2
  rw [show 2 ^ fw 3 = 65536 from rfl] at h3
  rw [show 2 ^ fw 4 = 65536 from rfl] at h4
  exact ⟨h0, h1, by show 0 ≤ (fval 2 nx a : Int) ∧ (fval 2 nx a : Int) ≤ 255; omega, by show 0 ≤ (fval 3 nx a : Int) ∧ (fval 3 nx a : Int) ≤ 65535; omega, by show 0 ≤ (fval 4 nx a : Int) ∧ (fval 4 nx a : Int) ≤ 65535; omega⟩
theorem Pkt.ok.f_val {p : Pkt} (h : p.ok) : (p.f 2 : Int) = p.proto ∧ (p.f 3 : Int) = p.sport ∧ (p.f 4 : Int) = p.dport := by
  obtain ⟨_, _, h2, h3, h4⟩ := h
  refine ⟨?_, ?_, ?_⟩
  · show ((u32 p.proto : Nat) : Int) = _; unfold u32; omega
  · show ((u32 p.sport : Nat) : Int) = _; unfold u32; omega
  · show ((u32 p.dport : Nat) : Int) = _; unfold u32; omega
theorem fval_u32 (k : Nat) (nx : Bool) (a : Nat → Bool) : fval k nx a < 4294967296 := by
  have h := fval_lt k nx a
  have : 2 ^ fw k ≤ 2 ^ 32 := Nat.pow_le_pow_right (by omega) (fw_le k)
  omega
/-- 'Decode' reads what 'Encode' was given. -/
theorem getP_enc (down : Nat → Bool) {p q : Pkt} (hp : p.ok) (hq : q.ok) (nx : Bool) {a : Nat → Bool} (ha : ∀ v, v < 220 → a v = encF down p q v) : getP a nx = if nx then q else p := by
  have hz : (if nx then q else p).ok := by cases nx <;> simp [hp, hq]
  have e := fun {k : Nat} (hk : k < 5) => fval_enc down hp hq hk nx ha
  unfold getP
  rw [e (k := 0) (by omega), e (k := 1) (by omega), e (k := 2) (by omega), e (k := 3) (by omega), e (k := 4) (by omega)]
  generalize (if nx then q else p) = z at *
  obtain ⟨h2, h3, h4⟩ := hz.f_val
  rw [h2, h3, h4]
  rfl

theorem Kp.set5 (w : World) (b : Nat) (v0 v1 v2 v3 v4 : Value) : Kp (fun x => x = b) w (((((w.setCell ⟨b, 0, none⟩ v0).setCell ⟨b, 1, none⟩ v1).setCell ⟨b, 2, none⟩ v2).setCell ⟨b, 3, none⟩ v3).setCell ⟨b, 4, none⟩ v4) :=
  have f : ∀ w : World, Fresh (fun x => x = b) (fun x => x = b) w := fun _ _ h => .inl h
  ((((Kp.setCell ⟨b, 0, none⟩ v0).trans (f _) (Kp.setCell ⟨b, 1, none⟩ v1)).trans (f _) (Kp.setCell ⟨b, 2, none⟩ v2)).trans (f _) (Kp.setCell ⟨b, 3, none⟩ v3)).trans (f _) (Kp.setCell ⟨b, 4, none⟩ v4)

/-! ### 'get' -/
def arrV (x0 x1 x2 x3 x4 : Nat) : Array Value := #[.int .u32 (x0 : Int), .int .u32 (x1 : Int), .int .u32 (x2 : Int), .int .u32 (x3 : Int), .int .u32 (x4 : Int)]
set_option maxRecDepth 100000 in
theorem packet_ok (x0 x1 x2 x3 x4 : Nat) (h2 : x2 < 4294967296) (h3 : x3 < 4294967296) (h4 : x4 < 4294967296) (w : World) : Calls Tryd.prog 92 #[.agg (arrV x0 x1 x2 x3 x4)] w fun e w' => e = .returned (pktV ⟨x0, x1, (x2 : Int), (x3 : Int), (x4 : Int)⟩) ∧ Kp No w w' := by
  unfold arrV
  go_enter Tryd.func92, Tryd.ntmps92
  go_wp2_with fail
  refine bodyPost_ret (v := pktV ⟨x0, x1, (x2 : Int), (x3 : Int), (x4 : Int)⟩) ?_ rfl ⟨rfl, (Kp.alloc _).trans_no (Kp.alloc _)⟩
  unfold pktV
  simp [results, Tryd.results92, go_sem]

def zeroPkt : Array Value := #[.int .u32 0, .int .u32 0, .int .i64 0, .int .i64 0, .int .i64 0]
/-- The state of 'get'. -/
structure GetJ (w wr : World) (x : Nat → Nat) : Prop where
  arr : wr.heap[w.heap.size + 1]? = some (.cells (arrV (x 0) (x 1) (x 2) (x 3) (x 4)) 93 (0, 0))
  res : wr.heap[w.heap.size]? = some (.cells zeroPkt 48 (0, 0))
  kp : Kp No w wr
def updN (x : Nat → Nat) (k v : Nat) : Nat → Nat := fun i => if i = k then v else x i
section
variable {w wr w' : World} {x : Nat → Nat}
theorem GetJ.no (j : GetJ w wr x) (k : Kp No wr w') : GetJ w w' x :=
  ⟨by rw [k.block _ (heap_lt j.arr) (fun h => h)]; exact j.arr, by rw [k.block _ (heap_lt j.res) (fun h => h)]; exact j.res, j.kp.trans_no k⟩
theorem GetJ.cell (j : GetJ w wr x) {k : Nat} (hk : k < 5) : wr.cell? ⟨w.heap.size + 1, k, none⟩ = some (.int .u32 (x k : Int)) ∧ wr.frozen? ⟨w.heap.size + 1, k, none⟩ = false := by
  refine ⟨?_, by simp [World.frozen?, j.arr]⟩
  rw [cell_of_row _ _ _ _ _ _ j.arr]
  rcases five hk with rfl | rfl | rfl | rfl | rfl <;> rfl
theorem GetJ.set (j : GetJ w wr x) {k : Nat} (hk : k < 5) (v : Nat) : GetJ w (wr.setCell ⟨w.heap.size + 1, k, none⟩ (.int .u32 (v : Int))) (updN x k v) := by
  refine ⟨?_, ?_, j.kp.trans (A' := fun b => b = w.heap.size + 1) (fun b e => .inr (by omega)) ((Kp.setCell _ _).mono (fun _ _ e => e))⟩
  · rw [setCell_heap j.arr]
    rcases five hk with rfl | rfl | rfl | rfl | rfl <;> rfl
  · rw [(Kp.setCell (w := wr) ⟨w.heap.size + 1, k, none⟩ (.int .u32 (v : Int))).block _ (heap_lt j.res) (by show ¬ w.heap.size = w.heap.size + 1; omega)]; exact j.res
end

/-- What the fields are when k are read, and b bits of the next one. -/
def gx (a : Nat → Bool) (nx : Bool) (k b : Nat) : Nat → Nat := fun i => if i < k then fval i nx a else if i = k then hval (fun b => a (fvar k b nx)) b else 0
theorem gx_step (a : Nat → Bool) (nx : Bool) (k b : Nat) : updN (updN (gx a nx k b) k (2 * hval (fun b => a (fvar k b nx)) b)) k (2 * hval (fun b => a (fvar k b nx)) b + if a (fvar k b nx) then 1 else 0) = gx a nx k (b + 1) := by
  funext i
  unfold updN gx
  by_cases h : i = k
  · subst h; simp only [if_true, Nat.lt_irrefl, if_false]; rfl
  · simp only [h, if_false]
theorem gx_step0 (a : Nat → Bool) (nx : Bool) (k b : Nat) (h : a (fvar k b nx) = false) : updN (gx a nx k b) k (2 * hval (fun b => a (fvar k b nx)) b) = gx a nx k (b + 1) := by
  funext i
  unfold updN gx
  by_cases h' : i = k
  · subst h'; simp only [if_true, Nat.lt_irrefl, if_false]; simp only [hval, h, Bool.false_eq_true, if_false, Nat.add_zero]
  · simp only [h', if_false]
theorem gx_next (a : Nat → Bool) (nx : Bool) (k : Nat) : gx a nx k (fw k) = gx a nx (k + 1) 0 := by
  funext i
  unfold gx
  by_cases h : i < k
  · rw [if_pos h, if_pos (by omega)]
  · rw [if_neg h]
    by_cases h2 : i = k
    · subst h2; rw [if_pos rfl, if_pos (by omega), fval_hval]
    · rw [if_neg h2, if_neg (by omega)]; split <;> rfl
theorem gx_at (a : Nat → Bool) (nx : Bool) (k b : Nat) : gx a nx k b k = hval (fun b => a (fvar k b nx)) b := by unfold gx; simp

def GetO (w : World) (a : Nat → Bool) (nx : Bool) (gk : Nat) (s : Value) (wr : World) : Prop := ∃ k, k + gk = 5 ∧ s = .int .i64 (k : Int) ∧ GetJ w wr (gx a nx k 0)
def GetI (w : World) (a : Nat → Bool) (nx : Bool) (k f gk : Nat) (s : Value) (wr : World) : Prop := ∃ b, b + gk = f ∧ s = .int .i64 (b : Int) ∧ GetJ w wr (gx a nx k b)

set_option maxRecDepth 100000 in
set_option maxHeartbeats 2000000 in
theorem get_ok (nx : Bool) {av : Value} {l : List Bool} {w : World} (g : Gl w) (hb : Bools w av l) :
    Calls Tryd.prog 72 #[av, .bool nx] w fun e w' => e = .returned (pktV (getP (asg l) nx)) ∧ Kp No w w' := by
  have GLW := Lib.hid g
  have HB := Lib.hid hb
  obtain ⟨ao, c, rfl, _, _⟩ := hb
  clear g
  go_enter Tryd.func72, Tryd.ntmps72
  go_wp2_with fail
  have J0 : Hid (GetO w (asg l) nx 5 (.int .i64 0) ((w.alloc (.cells zeroPkt 48)).alloc (.cells (arrV 0 0 0 0 0) 93))) := Lib.hid (by
    refine ⟨0, by omega, rfl, ?_, ?_, (Kp.alloc _).trans_no (Kp.alloc _)⟩
    · have h := heap_alloc_new (w.alloc (.cells zeroPkt 48)) (.cells (arrV 0 0 0 0 0) 93)
      rw [show (w.alloc (.cells zeroPkt 48)).heap.size = w.heap.size + 1 by simp] at h
      exact h
    · have h := heap_alloc_new w (.cells zeroPkt 48)
      rw [(Kp.alloc (w := w.alloc (.cells zeroPkt 48)) (.cells (arrV 0 0 0 0 0) 93)).block _ (heap_lt h) (fun x => x)]
      exact h)
  unfold zeroPkt arrV at J0
  go_loopg [9] 5 (fun gk s wr => GetO w (asg l) nx gk s wr)
  case atStart => exact J0.out
  case round =>
    clear J0
    obtain ⟨k, hk, rfl, j⟩ := hrel
    by_cases hlt : k < 5
    · have hlti : (k : Int) < 5 := by omega
      have HK := Lib.hid hk
      have J := Lib.hid j
      have JI : Hid (GetI w (asg l) nx k (fw k) (fw k) (.int .i64 0) wr) := Lib.hid ⟨0, by omega, rfl, j⟩
      have W := Lib.hid (fun (x : World) (h : Gl x) => Width_in k hlt h)
      have V := Lib.hid (fun (x : World) (h : Gl x) (b : Nat) (hb : b < fw k) => HVar_in k b nx hlt hb h)
      have NX := Lib.hid (gx_next (asg l) nx k)
      have hfw := fw_le k
      have hff := ff_fw hlt
      generalize fw k = f at *
      clear hk j
      go_wp2_with fail
      refine (W.out wr (GLW.out.no J.out.kp)).mono ?_
      rintro e w' ⟨rfl, rfl⟩
      clear J
      go_wp2_with fail
      go_loopg [14] f (fun gk s wr => GetI w (asg l) nx k f gk s wr)
      case atStart => exact JI.out
      case round =>
        clear JI
        obtain ⟨b, hb, rfl, j⟩ := hrel
        by_cases hbl : b < f
        · have hbi : (b : Int) < f := by omega
          have HBB := Lib.hid hb
          obtain ⟨c1, z1⟩ := j.cell hlt
          rw [gx_at] at c1
          have hh := hval_lt (fun b => asg l (fvar k b nx)) b
          have hp : 2 ^ b ≤ 2 ^ 31 := Nat.pow_le_pow_right (by omega) (by omega)
          have ST := Lib.hid (gx_step (asg l) nx k b)
          have ST0 := Lib.hid (gx_step0 (asg l) nx k b)
          have hv : fvar k b nx < 220 := hvar_lt (by omega) nx
          generalize hval (fun b => asg l (fvar k b nx)) b = y at *
          have hy : (y : Int) < 2147483648 := by omega
          have J := Lib.hid j
          clear hb hh hp j
          go_wp2_with fail
          have j := J.out
          have j1 := j.set hlt (2 * y)
          obtain ⟨c2, z2⟩ := j1.cell hlt
          have e2 : updN (gx (asg l) nx k b) k (2 * y) k = 2 * y := by unfold updN; rw [if_pos rfl]
          rw [e2] at c2
          have j2 := j1.set hlt (2 * y + 1)
          have hc2 : ((2 * y : Nat) : Int) = (y : Int) * 2 := by omega
          have hc3 : ((2 * y + 1 : Nat) : Int) = (y : Int) * 2 + 1 := by omega
          have VB := Lib.hid (V.out _ (GLW.out.no j1.kp) b hbl)
          have HW := HB.out.no j1.kp
          obtain ⟨ao', c', hv', _, hcells⟩ := HW
          have hv1 : ao = ao' := by injection hv'
          subst hv1
          rw [hc2] at j1 j2 c2 z2 VB hcells
          rw [hc3] at j2
          clear J c1 z1 e2 j
          generalize fvar k b nx = v at *
          generalize wr.setCell ⟨w.heap.size + 1, k, none⟩ (.int .u32 ((y : Int) * 2)) = w2 at *
          cases hbit : asg l v
          · have JN : Hid (GetI w (asg l) nx k f (f - (b + 1)) (.int .i64 ((b + 1 : Nat) : Int)) w2) := Lib.hid ⟨b + 1, by omega, rfl, by rw [← ST0.out hbit]; exact j1⟩
            by_cases hvl : v < l.length
            · rcases hcells with hcells | ⟨g, o, rfl, hcells⟩
              · rw [hcells] at hvl; simp at hvl
              have hc : w2.cell? ⟨g, o + v, none⟩ = some (.bool false) := hcells v _ (by
                have : l.getD v false = false := hbit
                simp [hvl] at this ⊢; exact this)
              have hvi : (v : Int) < l.length := by omega
              clear j1 j2 hc2 hc3 hcells hv' hbit
              refine VB.out.mono ?_
              rintro e w' ⟨rfl, rfl⟩
              go_wp2_with fail
              go_roundg (f - (b + 1))
              case measure => have := HBB.out; omega
              case rel => exact JN.out
            · have hvi : ¬ (v : Int) < l.length := by omega
              clear j1 j2 hc2 hc3 hcells hv' hbit
              refine VB.out.mono ?_
              rintro e w' ⟨rfl, rfl⟩
              go_wp2_with fail
              go_roundg (f - (b + 1))
              case measure => have := HBB.out; omega
              case rel => exact JN.out
          · have hvl : v < l.length := by
              rcases Nat.lt_or_ge v l.length with h | h
              · exact h
              · unfold asg at hbit; rw [List.getD_eq_getElem?_getD, List.getElem?_eq_none h] at hbit; cases hbit
            rcases hcells with hcells | ⟨g, o, rfl, hcells⟩
            · rw [hcells] at hvl; simp at hvl
            have hc : w2.cell? ⟨g, o + v, none⟩ = some (.bool true) := hcells v _ (by
              have : l.getD v false = true := hbit
              simp [hvl] at this ⊢; exact this)
            have hvi : (v : Int) < l.length := by omega
            have JN : Hid (GetI w (asg l) nx k f (f - (b + 1)) (.int .i64 ((b + 1 : Nat) : Int)) (w2.setCell ⟨w.heap.size + 1, k, none⟩ (.int .u32 ((y : Int) * 2 + 1)))) := Lib.hid ⟨b + 1, by omega, rfl, by
              have := ST.out
              rw [hbit, if_pos rfl] at this
              rw [← this]; exact j2⟩
            clear j1 j2 hc2 hc3 hcells hv' hbit
            refine VB.out.mono ?_
            rintro e w' ⟨rfl, rfl⟩
            go_wp2_with fail
            go_roundg (f - (b + 1))
            case measure => have := HBB.out; omega
            case rel => exact JN.out
        · obtain rfl : b = f := by omega
          have JN : Hid (GetO w (asg l) nx (5 - (k + 1)) (.int .i64 ((k + 1 : Nat) : Int)) wr) := Lib.hid ⟨k + 1, by omega, rfl, by rw [← NX.out]; exact j⟩
          have hbi : ¬ (b : Int) < b := by omega
          clear hb j hbl
          go_wp2_with fail
          go_roundg (5 - (k + 1))
          case measure => have := HK.out; omega
          case rel => exact JN.out
    · obtain rfl : k = 5 := by omega
      have e5 : gx (asg l) nx 5 0 = fun i => if i < 5 then fval i nx (asg l) else 0 := by
        funext i; unfold gx; split
        · rfl
        · split <;> simp [hval]
      rw [e5] at j
      obtain ⟨c0, _⟩ := j.cell (k := 0) (by omega)
      obtain ⟨c1, _⟩ := j.cell (k := 1) (by omega)
      obtain ⟨c2, _⟩ := j.cell (k := 2) (by omega)
      obtain ⟨c3, _⟩ := j.cell (k := 3) (by omega)
      obtain ⟨c4, _⟩ := j.cell (k := 4) (by omega)
      simp only [show (0:Nat) < 5 from by omega, show (1:Nat) < 5 from by omega, show (2:Nat) < 5 from by omega, show (3:Nat) < 5 from by omega, show (4:Nat) < 5 from by omega, if_true] at c0 c1 c2 c3 c4
      have PK := Lib.hid (fun (x : World) => packet_ok (fval 0 nx (asg l)) (fval 1 nx (asg l)) (fval 2 nx (asg l)) (fval 3 nx (asg l)) (fval 4 nx (asg l)) (fval_u32 _ _ _) (fval_u32 _ _ _) (fval_u32 _ _ _) x)
      have hPK : pktV ⟨fval 0 nx (asg l), fval 1 nx (asg l), (fval 2 nx (asg l) : Int), (fval 3 nx (asg l) : Int), (fval 4 nx (asg l) : Int)⟩ = pktV (getP (asg l) nx) := rfl
      rw [hPK] at PK
      unfold arrV at PK
      have J := Lib.hid j
      clear hPK j e5 hk hlt
      go_wp2_with fail
      refine (PK.out _).mono ?_
      rintro e w3 ⟨rfl, k3⟩
      have j3 := J.out.no k3
      have r3 := j3.res
      have KP3 := Lib.hid j3.kp
      unfold zeroPkt at r3
      obtain ⟨pk, hpk⟩ : ∃ pk, getP (asg l) nx = pk := ⟨_, rfl⟩
      rw [hpk]
      have HPK := Lib.hid hpk
      unfold pktV
      clear j3 k3 PK c0 c1 c2 c3 c4 hpk J
      have d0 : w3.cell? ⟨w.heap.size, 0, none⟩ = some (.int .u32 0) := by rw [cell_of_row _ _ _ _ _ _ r3]; rfl
      have d1 : w3.cell? ⟨w.heap.size, 1, none⟩ = some (.int .u32 0) := by rw [cell_of_row _ _ _ _ _ _ r3]; rfl
      have d2 : w3.cell? ⟨w.heap.size, 2, none⟩ = some (.int .i64 0) := by rw [cell_of_row _ _ _ _ _ _ r3]; rfl
      have d3 : w3.cell? ⟨w.heap.size, 3, none⟩ = some (.int .i64 0) := by rw [cell_of_row _ _ _ _ _ _ r3]; rfl
      have d4 : w3.cell? ⟨w.heap.size, 4, none⟩ = some (.int .i64 0) := by rw [cell_of_row _ _ _ _ _ _ r3]; rfl
      have z0 : ∀ i, w3.frozen? ⟨w.heap.size, i, none⟩ = false := fun i => by simp [World.frozen?, r3]
      go_wp2_with fail
      rw [HPK.out]
      refine bodyPost_ret (v := pktV pk) ?_ rfl ⟨rfl, KP3.out.trans (A' := fun x => x = w.heap.size) (fun x e => .inr (by omega)) (Kp.set5 _ _ _ _ _ _ _)⟩
      unfold pktV
      simp [results, Tryd.results72, go_sem, d0, d1, d2, d3, d4]

end Go.Proofs.YtohinonkfhkclaaDoor
