/-
  Walks: 'values', 'packet', 'put', 'Encode' of the package header.
-/
import Derived.Test.YtgglkldoclejaaaDoorHw1
import Derived.Test.YtgglkldoclejaaaDoorTab
import Derived.Deep.LoopGhost
namespace Go.Proofs.YtgglkldoclejaaaDoor
open Go.RowKit

theorem bit_of {k : IntKind} {j : Nat} (hj : j ≤ k.bits) (hj1 : 1 ≤ j) (hk : ∀ n : Int, 0 ≤ n → n < 2 ^ j → k.wrap n = n) {x s : Nat} (hx : x < 2 ^ j) : (bits BinOp.and k ((x : Int) / 2 ^ s) 1 == 1) = x.testBit s := by
  have h : (x : Int) / 2 ^ s = ((x / 2 ^ s : Nat) : Int) := by simp
  have hlt : x / 2 ^ s < 2 ^ j := Nat.lt_of_le_of_lt (Nat.div_le_self _ _) hx
  have := bits_mask k j hj hk 1 hj1 ((x / 2 ^ s : Nat) : Int) (Int.natCast_nonneg _) (by exact_mod_cast hlt)
  rw [h, show (1 : Int) = 2 ^ 1 - 1 from rfl, this, Nat.testBit_eq_decide_div_mod_eq]
  generalize x / 2 ^ s = y
  rw [Bool.eq_iff_iff]
  simp
  omega
theorem bit_u32 {x s : Nat} (hx : x < 4294967296) : (bits BinOp.and IntKind.u32 ((x : Int) / 2 ^ s) 1 == 1) = x.testBit s :=
  bit_of (j := 32) (by decide) (by omega) (fun n a b => by rw [IntKind.wrap_u32]; omega) hx

def pktV (p : Pkt) : Value := .agg #[.int .u32 (p.src : Int), .int .u32 (p.dst : Int), .int .i64 p.proto, .int .i64 p.sport, .int .i64 p.dport]
def valsV (p : Pkt) : Value := .agg #[.int .u32 (p.f 0 : Int), .int .u32 (p.f 1 : Int), .int .u32 (p.f 2 : Int), .int .u32 (p.f 3 : Int), .int .u32 (p.f 4 : Int)]
theorem u32_wrap (x : Int) : IntKind.u32.wrap x = (u32 x : Int) := by rw [IntKind.wrap_u32]; unfold u32; omega
theorem u32_lt (x : Int) : u32 x < 4294967296 := by unfold u32; omega
structure Pkt.in32 (p : Pkt) : Prop where
  h0 : p.src < 4294967296
  h1 : p.dst < 4294967296
theorem Pkt.in32.f {p : Pkt} (h : p.in32) {k : Nat} (hk : k < 5) : p.f k < 4294967296 := by
  rcases five hk with rfl | rfl | rfl | rfl | rfl
  · exact h.h0
  · exact h.h1
  · exact u32_lt _
  · exact u32_lt _
  · exact u32_lt _
theorem Pkt.ok.in32 {p : Pkt} (h : p.ok) : p.in32 := ⟨h.h0, h.h1⟩

set_option maxRecDepth 100000 in
theorem values_ok (p : Pkt) (w : World) : Calls Tryd.prog 75 #[pktV p] w fun e w' => e = .returned (valsV p) ∧ Kp No w w' := by
  unfold pktV
  go_enter Tryd.func75, Tryd.ntmps75
  go_wp2_with fail
  refine bodyPost_ret (v := valsV p) ?_ rfl ⟨rfl, ?_⟩
  · unfold valsV
    simp [results, Tryd.results75, go_sem]
    refine ⟨rfl, rfl, ?_, ?_, ?_⟩
    · show _ = ((u32 p.proto : Nat) : Int); unfold u32; omega
    · show _ = ((u32 p.sport : Nat) : Int); unfold u32; omega
    · show _ = ((u32 p.dport : Nat) : Int); unfold u32; omega
  · exact (Kp.alloc _).trans_no (Kp.alloc _)

set_option maxRecDepth 100000 in
theorem index_vals (p : Pkt) {k : Nat} (hk : k < 5) (w : World) : (Instr.index 120 (.agg #[.int .u32 (p.f 0 : Int), .int .u32 (p.f 1 : Int), .int .u32 (p.f 2 : Int), .int .u32 (p.f 3 : Int), .int .u32 (p.f 4 : Int)]) (.int .i64 (k : Int))).run Tryd.prog w = .ok (.int .u32 (p.f k : Int)) w := by
  have h27 : Tryd.prog.cellsOf 27 = 1 := by kernel_rfl
  rcases five hk with rfl | rfl | rfl | rfl | rfl <;> rfl

/-! ### a row of values of a function -/
def boolRow (G : Nat → Bool) : List Value := (List.range 220).map fun v => .bool (G v)
theorem boolRow_len (G : Nat → Bool) : (boolRow G).length = 220 := by simp [boolRow]
theorem boolRow_at (G : Nat → Bool) {v : Nat} (h : v < 220) : (boolRow G)[v]? = some (.bool (G v)) := by simp [boolRow, h]
theorem boolRow_set (G : Nat → Bool) (v : Nat) (b : Bool) : (boolRow G).set v (.bool b) = boolRow (Mgr.upd G v b) := by
  apply List.ext_getElem?
  intro i
  by_cases hi : i < 220
  · rw [boolRow_at _ hi]
    by_cases e : v = i
    · subst e; rw [List.getElem?_set_self (by rw [boolRow_len]; exact hi)]; simp
    · rw [List.getElem?_set_ne e, boolRow_at _ hi, Mgr.upd_other _ _ _ _ (Ne.symm e)]
  · rw [List.getElem?_eq_none (by rw [List.length_set, boolRow_len]; omega), List.getElem?_eq_none (by rw [boolRow_len]; omega)]

/-- The array of an assignment while it is filled. -/
structure PutJ (w : World) (B g : Nat) (G : Nat → Bool) (wr : World) : Prop where
  row : wr.ownsRow B 4 1 (.slice (some ⟨g, 0, none⟩) 220 220) 220 (boolRow G)
  kp : Kp (fun x => x = g) w wr
  gl : Gl wr
  ne : 0 ≠ g
theorem PutJ.no {w : World} {B g : Nat} {G : Nat → Bool} {wr w' : World} (j : PutJ w B g G wr) (k : Kp No wr w') : PutJ w B g G w' := ⟨ownsRow_kp j.row k (fun _ _ x => x), j.kp.trans_no k, j.gl.no k, j.ne⟩
theorem PutJ.cell {w : World} {B g : Nat} {G : Nat → Bool} {wr : World} (j : PutJ w B g G wr) {v : Nat} (hv : v < 220) : wr.cell? ⟨g, v, none⟩ = some (.bool (G v)) ∧ wr.frozen? ⟨g, v, none⟩ = false := by
  obtain ⟨g', c, hq, _, _, _, hc, hz⟩ := ownsRow_open j.row (by omega)
  cases hq
  exact ⟨hc v _ (boolRow_at G hv), hz v⟩
theorem PutJ.put {w : World} {B g : Nat} {G : Nat → Bool} {wr : World} (j : PutJ w B g G wr) (v : Nat) (b : Bool) : PutJ w B g (Mgr.upd G v b) (wr.setCell ⟨g, v, none⟩ (.bool b)) := by
  refine ⟨?_, ?_, j.gl.kp (Kp.setCell _ _) j.ne, j.ne⟩
  · have := ownsRow_put j.row v (.bool b)
    rw [boolRow_set] at this
    exact this
  · exact j.kp.trans (A' := fun x => x = g) (fun x e => .inl e) ((Kp.setCell _ _).mono (fun _ _ e => e))
theorem PutJ.congr {w : World} {B g : Nat} {G H : Nat → Bool} {wr : World} (j : PutJ w B g G wr) (e : ∀ v, v < 220 → G v = H v) : PutJ w B g H wr := by
  have : boolRow G = boolRow H := by
    unfold boolRow
    exact List.map_congr_left (fun v hv => by rw [e v (List.mem_range.1 hv)])
  exact ⟨this ▸ j.row, j.kp, j.gl, j.ne⟩

/-- The first t bits of a header are written. -/
def putG (G : Nat → Bool) (p : Pkt) (nx : Bool) (t : Nat) (v : Nat) : Bool := if 12 ≤ v ∧ (v - 12) % 2 = (if nx then 1 else 0) ∧ (v - 12) / 2 < t then p.bit ((v - 12) / 2) else G v
theorem putG_zero (G : Nat → Bool) (p : Pkt) (nx : Bool) : putG G p nx 0 = G := by funext v; unfold putG; rw [if_neg (by omega)]
theorem putG_succ (G : Nat → Bool) (p : Pkt) (nx : Bool) (t : Nat) : Mgr.upd (putG G p nx t) (hvar t nx) (p.bit t) = putG G p nx (t + 1) := by
  funext v
  unfold Mgr.upd
  have e := hvar
  by_cases hv : v = hvar t nx
  · subst hv
    rw [if_pos rfl]
    unfold putG hvar
    cases nx
    · have h1 : (12 + 2 * t + 0 - 12) / 2 = t := by omega
      rw [if_pos ⟨by simp, by simp, by simp⟩]
      simp
    · have h1 : (12 + 2 * t + 1 - 12) / 2 = t := by omega
      simp only [if_true]
      rw [if_pos ⟨by omega, by omega, by omega⟩, h1]
  · rw [if_neg hv]
    unfold putG
    unfold hvar at hv
    by_cases h : 12 ≤ v ∧ (v - 12) % 2 = (if nx then 1 else 0) ∧ (v - 12) / 2 < t
    · rw [if_pos h, if_pos ⟨h.1, h.2.1, by omega⟩]
    · rw [if_neg h, if_neg]
      rintro ⟨h1, h2, h3⟩
      apply h
      refine ⟨h1, h2, ?_⟩
      cases nx <;> simp at hv h2 ⊢ <;> omega
def fsum (k : Nat) : Nat := [0, 32, 64, 72, 88, 104].getD k 0
theorem fsum_lt {k : Nat} (h : k < 5) : fsum k = ff k ∧ fsum (k + 1) = ff k + fw k := by rcases five h with rfl | rfl | rfl | rfl | rfl <;> decide

def PutO (w : World) (B g : Nat) (G : Nat → Bool) (p : Pkt) (nx : Bool) (gk : Nat) (s : Value) (wr : World) : Prop := ∃ k, k + gk = 5 ∧ s = .int .i64 (k : Int) ∧ PutJ w B g (putG G p nx (fsum k)) wr
def PutI (w : World) (B g : Nat) (G : Nat → Bool) (p : Pkt) (nx : Bool) (k f gk : Nat) (s : Value) (wr : World) : Prop := ∃ b, b + gk = f ∧ s = .int .i64 (b : Int) ∧ PutJ w B g (putG G p nx (ff k + b)) wr

set_option maxRecDepth 100000 in
set_option maxHeartbeats 2000000 in
theorem put_ok (p : Pkt) (nx : Bool) (hp : p.in32) {w0 w : World} {B g : Nat} {G : Nat → Bool} (j : PutJ w0 B g G w) :
    Calls Tryd.prog 59 #[.slice (some ⟨g, 0, none⟩) 220 220, pktV p, .bool nx] w fun e w' => e = .returned (.tuple #[]) ∧ PutJ w0 B g (putG G p nx 104) w' := by
  have VAL := Lib.hid (fun w => values_ok p w)
  have J := Lib.hid j
  have HP := Lib.hid hp
  clear j hp
  unfold pktV at VAL ⊢
  go_enter Tryd.func59, Tryd.ntmps59
  go_wp2_with fail
  refine (VAL.out _).mono ?_
  rintro e w1 ⟨rfl, k1⟩
  have J0 : Hid (PutO w0 B g G p nx 5 (.int .i64 0) w1) := Lib.hid ⟨0, by omega, rfl, by rw [show fsum 0 = 0 from rfl, putG_zero]; exact J.out.no ((Kp.alloc _).trans_no k1)⟩
  clear k1 J VAL
  unfold valsV
  go_wp2_with fail
  go_loopg [11] 5 (fun gk s wr => PutO w0 B g G p nx gk s wr)
  case atStart => exact J0.out
  case round =>
    clear J0
    obtain ⟨k, hk, rfl, j⟩ := hrel
    by_cases hlt : k < 5
    · have J := Lib.hid j
      have HK := Lib.hid hk
      obtain ⟨e1, e2⟩ := fsum_lt hlt
      have JI : Hid (PutI w0 B g G p nx k (fw k) (fw k) (.int .i64 0) wr) := Lib.hid ⟨0, by omega, rfl, by rw [← e1]; exact j⟩
      have hf32 := HP.out.f hlt
      have W := Lib.hid (fun (x : World) (h : Gl x) => Width_in k hlt h)
      have V := Lib.hid (fun (x : World) (h : Gl x) (b : Nat) (hb : b < fw k) => HVar_in k b nx hlt hb h)
      have E2 := Lib.hid e2
      have BIT := Lib.hid (fun (b : Nat) (hb : b < fw k) => p.bit_at hlt hb)
      have hfw := fw_le k
      have hff := ff_fw hlt
      generalize fw k = f at *
      have hidx := index_vals p hlt wr
      have hlti : (k : Int) < 5 := by omega
      generalize p.f k = x at *
      clear hk j e1 e2
      go_wp2_with fail
      refine (W.out wr J.out.gl).mono ?_
      rintro e w' ⟨rfl, rfl⟩
      clear hidx J
      go_wp2_with fail
      go_loopg [17] f (fun gk s wr => PutI w0 B g G p nx k f gk s wr)
      case atStart => exact JI.out
      case round =>
        clear JI
        obtain ⟨b, hb, rfl, j⟩ := hrel
        by_cases hbl : b < f
        · have hv : fvar k b nx < 220 := hvar_lt (by omega) nx
          have HB := Lib.hid hb
          have hbi : (b : Int) < f := by omega
          obtain ⟨c1, z1⟩ := j.cell hv
          have hsh : (bits BinOp.and IntKind.u32 ((x : Int) / 2 ^ (f - 1 - b)) 1 == 1) = p.bit (ff k + b) := by
            rw [BIT.out b hbl]
            exact bit_u32 hf32
          have JN : Hid (PutJ w0 B g (putG G p nx (ff k + b + 1)) (wr.setCell ⟨g, fvar k b nx, none⟩ (.bool (p.bit (ff k + b))))) := Lib.hid (by
            have := j.put (fvar k b nx) (p.bit (ff k + b))
            unfold fvar at this ⊢
            rw [putG_succ] at this
            exact this)
          have VB := Lib.hid (V.out wr j.gl b hbl)
          have GLW := Lib.hid j.gl
          have hvi : (fvar k b nx : Int) < 220 := by omega
          clear hb j hv
          generalize fvar k b nx = v at *
          generalize putG G p nx (ff k + b) v = old at *
          generalize p.bit (ff k + b) = bb at *
          go_wp2_with fail
          refine VB.out.mono ?_
          rintro e w' ⟨rfl, rfl⟩
          go_wp2_with fail
          refine (W.out _ GLW.out).mono ?_
          rintro e w' ⟨rfl, rfl⟩
          go_wp2_with fail
          go_roundg (f - (b + 1))
          case measure => have := HB.out; omega
          case rel => exact ⟨b + 1, by omega, by go_num, JN.out⟩
        · obtain rfl : b = f := by omega
          have JN : Hid (PutO w0 B g G p nx (5 - (k + 1)) (.int .i64 ((k + 1 : Nat) : Int)) wr) := Lib.hid ⟨k + 1, by omega, rfl, by rw [E2.out]; exact j⟩
          have hbi : ¬ (b : Int) < b := by omega
          clear hb j hbl
          go_wp2_with fail
          go_roundg (5 - (k + 1))
          case measure => have := HK.out; omega
          case rel => exact JN.out
    · obtain rfl : k = 5 := by omega
      have J := Lib.hid j
      clear j hk hlt
      go_wp2_with fail
      go_end0
      exact ⟨rfl, J.out⟩

theorem encG (dn : Nat → Bool) (p q : Pkt) (v : Nat) (hv : v < 220) : putG (putG (fun v => decide (v < 12) && dn v) p false 104) q true 104 v = encF dn p q v := by
  unfold putG encF
  by_cases h : v < 12
  · rw [if_neg (by omega), if_neg (by omega), if_pos h]; simp [h]
  · rw [if_neg h]
    by_cases h2 : (v - 12) % 2 = 0
    · rw [if_neg (by simp; omega), if_pos ⟨by omega, by simpa using h2, by omega⟩, if_pos h2]
    · rw [if_pos ⟨by omega, by simp; omega, by omega⟩, if_neg h2]

/-- 'Encode'. -/
def dnF (l : List Int) (v : Nat) : Bool := decide ((v : Int) ∈ l)
def EncPost (w : World) (G : Nat → Bool) (e : Ending) (w' : World) : Prop := ∃ g, e = .returned (.slice (some ⟨g, 0, none⟩) 220 220) ∧ w'.ownsRow w.heap.size 4 1 (.slice (some ⟨g, 0, none⟩) 220 220) 220 (boolRow G) ∧ Kp No w w'
def EncR (w : World) (B g : Nat) (l : List Int) (gk : Nat) (s : Value) (wr : World) : Prop := ∃ k, k + gk = l.length ∧ s = .int .i64 (k : Int) ∧ PutJ w B g (fun v => decide (v < 12) && dnF (l.take k) v) wr

theorem make_bools (w : World) : ∃ w1, (Instr.makeSlice 31 (.int .i64 220) (.int .i64 220)).run Tryd.prog w = .ok (.slice (some ⟨w.heap.size, 0, none⟩) 220 220) w1 ∧ w1.ownsRow w.heap.size 4 1 (.slice (some ⟨w.heap.size, 0, none⟩) 220 220) 220 (boolRow (fun _ => false)) ∧ Kp No w w1 := by
  obtain ⟨j0, hj0, hy0, hy1, hy2⟩ := info_parts info_bool
  obtain ⟨w1, hrun, r1, r2⟩ := run_make_full (P := Tryd.prog) w w.heap.size 31 4 j0 _ 1 Tryd.underlying31 hj0 hy0 hy1 .i64 .i64 220 (by rw [hy2]; omega) (by rw [maxLen_val]; omega) (Nat.le_refl _)
  refine ⟨w1, hrun, ?_, (Kp.grown r2).mono (fun k _ e => by cases e)⟩
  rw [made_false] at r1
  have : boolRow (fun _ => false) = List.replicate (220 * 1) (.bool false) := by
    apply List.ext_getElem?
    intro i
    simp only [boolRow, List.getElem?_map, List.getElem?_replicate]
    by_cases h : i < 220 <;> simp [h]
  rw [this]
  exact r1

theorem enc_step (l : List Int) {k : Nat} (hk : k < l.length) {v : Nat} (hx : l.getD k 0 = (v : Int)) (hv : v < 12) : (Mgr.upd (fun v => decide (v < 12) && dnF (l.take k) v) v true) = fun v => decide (v < 12) && dnF (l.take (k + 1)) v := by
  funext u
  have e : l.take (k + 1) = l.take k ++ [l.getD k 0] := by rw [List.take_succ_eq_append_getElem hk]; simp [hk]
  unfold Mgr.upd dnF
  rw [e, hx]
  by_cases h : u = v
  · subst h; simp [hv]
  · rw [if_neg h]
    have : ((u : Int) ∈ l.take k ++ [(v : Int)]) ↔ (u : Int) ∈ l.take k := by simp; omega
    simp only [this]
theorem enc_skip (l : List Int) {k : Nat} (hk : k < l.length) (hx : ¬ (0 ≤ l.getD k 0 ∧ l.getD k 0 < 12)) : (fun v => decide (v < 12) && dnF (l.take k) v) = fun v => decide (v < 12) && dnF (l.take (k + 1)) v := by
  funext u
  have e : l.take (k + 1) = l.take k ++ [l.getD k 0] := by rw [List.take_succ_eq_append_getElem hk]; simp [hk]
  unfold dnF
  rw [e]
  by_cases h : u < 12
  · have : ((u : Int) ∈ l.take k ++ [l.getD k 0]) ↔ (u : Int) ∈ l.take k := by
      rw [List.mem_append, List.mem_singleton]
      constructor
      · rintro (h1 | h1)
        · exact h1
        · exact (hx (by omega)).elim
      · exact .inl
    simp only [this]
  · simp [h]

/-- A packet in memory. -/
structure PkAt (w : World) (b : Nat) (p : Pkt) : Prop where
  c0 : w.cell? ⟨b, 0, none⟩ = some (.int .u32 (p.src : Int))
  c1 : w.cell? ⟨b, 1, none⟩ = some (.int .u32 (p.dst : Int))
  c2 : w.cell? ⟨b, 2, none⟩ = some (.int .i64 p.proto)
  c3 : w.cell? ⟨b, 3, none⟩ = some (.int .i64 p.sport)
  c4 : w.cell? ⟨b, 4, none⟩ = some (.int .i64 p.dport)
theorem PkAt.kp {A : Nat → Prop} {w w' : World} {b : Nat} {p : Pkt} (h : PkAt w b p) (k : Kp A w w') (hn : ¬ A b) : PkAt w' b p := by
  have hb : b < w.heap.size := World.block_lt_of_cell? _ _ h.c0
  exact ⟨by rw [k.cell hb hn]; exact h.c0, by rw [k.cell hb hn]; exact h.c1, by rw [k.cell hb hn]; exact h.c2, by rw [k.cell hb hn]; exact h.c3, by rw [k.cell hb hn]; exact h.c4⟩
theorem PkAt.no {w w' : World} {b : Nat} {p : Pkt} (h : PkAt w b p) (k : Kp No w w') : PkAt w' b p := h.kp k (fun x => x)
theorem PkAt.new (w : World) (p : Pkt) (t : TypeId) : PkAt (w.alloc (.cells #[.int .u32 (p.src : Int), .int .u32 (p.dst : Int), .int .i64 p.proto, .int .i64 p.sport, .int .i64 p.dport] t)) w.heap.size p := by
  have h := heap_alloc_new w (.cells #[.int .u32 (p.src : Int), .int .u32 (p.dst : Int), .int .i64 p.proto, .int .i64 p.sport, .int .i64 p.dport] t)
  exact ⟨by rw [cell_of_row _ _ _ _ _ _ h]; rfl, by rw [cell_of_row _ _ _ _ _ _ h]; rfl, by rw [cell_of_row _ _ _ _ _ _ h]; rfl, by rw [cell_of_row _ _ _ _ _ _ h]; rfl, by rw [cell_of_row _ _ _ _ _ _ h]; rfl⟩

set_option maxRecDepth 100000 in
set_option maxHeartbeats 2000000 in
theorem Encode_ok (l : List Int) (p q : Pkt) (hp : p.in32) (hq : q.in32) {dv : Value} {w : World} (g : Gl w) (hd : SrcAt w dv 1 l.length (l.map intV)) (hl : l.length ≤ 1000000) :
    Calls Tryd.prog 22 #[dv, pktV p, pktV q] w (EncPost w (encF (dnF l) p q)) := by
  obtain ⟨mk, hmk⟩ := Classical.axiomOfChoice make_bools
  have HMK := Lib.hid (fun W => (hmk W).2)
  have hrun := fun W => (hmk W).1
  have GLW := Lib.hid g
  have HD := Lib.hid hd
  have PUTP := Lib.hid (fun (w0 w : World) (B g : Nat) (G : Nat → Bool) (j : PutJ w0 B g G w) => put_ok p false hp j)
  have PUTQ := Lib.hid (fun (w0 w : World) (B g : Nat) (G : Nat → Bool) (j : PutJ w0 B g G w) => put_ok q true hq j)
  have EG := Lib.hid (encG (dnF l) p q)
  obtain ⟨ao, c, rfl, _⟩ := hd
  clear hmk g hp hq
  unfold pktV at PUTP PUTQ ⊢
  go_enter Tryd.func22, Tryd.ntmps22
  have PP := Lib.hid ((PkAt.new w p 29).no (Kp.alloc (.cells #[.int .u32 (q.src : Int), .int .u32 (q.dst : Int), .int .i64 q.proto, .int .i64 q.sport, .int .i64 q.dport] 29)))
  have PQ := Lib.hid (PkAt.new (w.alloc (.cells #[.int .u32 (p.src : Int), .int .u32 (p.dst : Int), .int .i64 p.proto, .int .i64 p.sport, .int .i64 p.dport] 29)) q 29)
  have KW := Lib.hid ((Kp.alloc (w := w) (.cells #[.int .u32 (p.src : Int), .int .u32 (p.dst : Int), .int .i64 p.proto, .int .i64 p.sport, .int .i64 p.dport] 29)).trans_no (Kp.alloc (.cells #[.int .u32 (q.src : Int), .int .u32 (q.dst : Int), .int .i64 q.proto, .int .i64 q.sport, .int .i64 q.dport] 29)))
  have HSZ : ((w.alloc (.cells #[.int .u32 (p.src : Int), .int .u32 (p.dst : Int), .int .i64 p.proto, .int .i64 p.sport, .int .i64 p.dport] 29)).alloc (.cells #[.int .u32 (q.src : Int), .int .u32 (q.dst : Int), .int .i64 q.proto, .int .i64 q.sport, .int .i64 q.dport] 29)).heap.size = w.heap.size + 2 := by simp
  go_wp2_with fail
  generalize (w.alloc (.cells #[.int .u32 (p.src : Int), .int .u32 (p.dst : Int), .int .i64 p.proto, .int .i64 p.sport, .int .i64 p.dport] 29)).alloc (.cells #[.int .u32 (q.src : Int), .int .u32 (q.dst : Int), .int .i64 q.proto, .int .i64 q.sport, .int .i64 q.dport] 29) = wB at *
  have J0 : Hid (EncR wB w.heap.size (w.heap.size + 2) l l.length (.int .i64 0) (mk wB)) := Lib.hid (by
    obtain ⟨r1, k1⟩ := HMK.out wB
    rw [HSZ] at r1
    have hlt := GLW.out.lt
    refine ⟨0, by omega, rfl, ?_, k1.of_no, (GLW.out.no KW.out).no k1, by omega⟩
    have e : (fun v => decide (v < 12) && dnF (l.take 0) v) = fun _ => false := by funext v; simp [dnF]
    rw [e]
    rcases r1.2 with ⟨hx, _⟩ | ⟨g, cap, cur, hv, hg, r⟩
    · cases hx
    · exact ⟨r1.1, .inr ⟨g, cap, cur, hv, by omega, r⟩⟩)
  have PQ' : Hid (PkAt wB (w.heap.size + 1) q) := Lib.hid (by have := PQ.out; simpa using this)
  have HSZ' := Lib.hid HSZ
  clear hrun PQ HSZ HMK
  go_loopg [13] l.length (fun gk s wr => EncR wB w.heap.size (w.heap.size + 2) l gk s wr)
  case atStart => exact J0.out
  case round =>
    clear J0
    obtain ⟨k, hk, rfl, j⟩ := hrel
    by_cases hlt : k < l.length
    · have kw : Kp No w wr := KW.out.trans (A' := fun x => x = w.heap.size + 2) (fun x e => .inr (by omega)) j.kp
      obtain ⟨ao', c', hv', _, hcells⟩ := HD.out.no kw
      have hv1 : ao = ao' := by injection hv'
      subst hv1
      rcases hcells with hcells | ⟨g, o, rfl, hg, hcells⟩
      · rw [hcells] at hlt; simp at hlt
      have hc : wr.cell? ⟨g, o + k, none⟩ = some (.int .i64 (l.getD k 0)) := hcells k _ (by simp [hlt, intV])
      have FA := Lib.hid (fun (x : World) => Failure_ok (l.getD k 0) x)
      have hlti : (k : Int) < l.length := by omega
      have HK := Lib.hid hk
      by_cases hx : 0 ≤ l.getD k 0 ∧ l.getD k 0 < 12
      · obtain ⟨v, hv⟩ : ∃ v : Nat, l.getD k 0 = (v : Int) := ⟨(l.getD k 0).toNat, by omega⟩
        have hv12 : v < 12 := by omega
        obtain ⟨c1, z1⟩ := j.cell (v := v) (by omega)
        have JN : Hid (EncR wB w.heap.size (w.heap.size + 2) l (l.length - (k + 1)) (.int .i64 ((k + 1 : Nat) : Int)) (wr.setCell ⟨w.heap.size + 2, v, none⟩ (.bool true))) := Lib.hid ⟨k + 1, by omega, rfl, by
          have := j.put v true
          rw [enc_step l hlt hv hv12] at this
          exact this⟩
        rw [if_pos hx] at FA
        rw [hv] at FA hc
        have hvi : (v : Int) < 220 := by omega
        have hv0 : (0 : Int) ≤ v := by omega
        generalize (decide (v < 12) && dnF (l.take k) v) = old at *
        clear hk j kw hcells hx hv hv'
        go_wp2_with fail
        refine (FA.out _).mono ?_
        rintro e w' ⟨rfl, rfl⟩
        clear FA
        go_wp2_with fail
        go_roundg (l.length - (k + 1))
        case measure => have := HK.out; omega
        case rel => exact JN.out
      · have JN : Hid (EncR wB w.heap.size (w.heap.size + 2) l (l.length - (k + 1)) (.int .i64 ((k + 1 : Nat) : Int)) wr) := Lib.hid ⟨k + 1, by omega, rfl, by rw [← enc_skip l hlt hx]; exact j⟩
        rw [if_neg hx] at FA
        generalize l.getD k 0 = y at *
        clear hk j kw hcells hx hv'
        go_wp2_with fail
        refine (FA.out _).mono ?_
        rintro e w' ⟨rfl, rfl⟩
        clear FA
        go_wp2_with fail
        go_roundg (l.length - (k + 1))
        case measure => have := HK.out; omega
        case rel => exact JN.out
    · obtain rfl : k = l.length := by omega
      rw [List.take_length] at j
      obtain ⟨c0, c1, c2, c3, c4⟩ := PP.out.kp j.kp (by have := HSZ'.out; omega)
      have J := Lib.hid j
      have hlti : ¬ (l.length : Int) < l.length := by omega
      clear hk hlt j PP
      go_wp2_with fail
      refine (PUTP.out _ _ _ _ _ J.out).mono ?_
      rintro e w3 ⟨rfl, j3⟩
      have J3 := Lib.hid j3
      obtain ⟨d0, d1, d2, d3, d4⟩ := PQ'.out.kp j3.kp (by have := HSZ'.out; omega)
      clear c0 c1 c2 c3 c4 j3 J PQ' PUTP
      go_wp2_with fail
      refine (PUTQ.out _ _ _ _ _ J3.out).mono ?_
      rintro e w4 ⟨rfl, j4⟩
      have FIN : Hid (EncPost w (encF (dnF l) p q) (.returned (.slice (some ⟨w.heap.size + 2, 0, none⟩) 220 220)) w4) := Lib.hid ⟨_, rfl, (j4.congr EG.out).row, KW.out.trans (A' := fun x => x = w.heap.size + 2) (fun x e => .inr (by omega)) j4.kp⟩
      clear j4 d0 d1 d2 d3 d4 J3 PUTQ
      go_wp2_with fail
      go_ret
      exact FIN.out

end Go.Proofs.YtgglkldoclejaaaDoor
