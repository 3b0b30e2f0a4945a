/-
  Walks: 'Wildcard' of the package header.
-/
import Derived.Test.YtdgnbbmgcgfibaaGreatDoorQ
import Derived.Deep.LoopGhost
namespace Go.Proofs.YtdgnbbmgcgfibaaGreatDoor

def fw (k : Nat) : Nat := [32, 32, 8, 16, 16].getD k 0
def ff (k : Nat) : Nat := [0, 32, 64, 72, 88].getD k 0
def hvar (bit : Nat) (nx : Bool) : Nat := 12 + 2 * bit + (if nx then 1 else 0)
def fvar (k bit : Nat) (nx : Bool) : Nat := hvar (ff k + bit) nx
def fend (k : Nat) : Nat := 12 + 2 * (ff k + fw k)
theorem five {k : Nat} (h : k < 5) : k = 0 ∨ k = 1 ∨ k = 2 ∨ k = 3 ∨ k = 4 := by omega
theorem fw_le (k : Nat) : fw k ≤ 32 := by
  by_cases h : k < 5
  · rcases five h with rfl | rfl | rfl | rfl | rfl <;> decide
  · simp [fw, List.getD, show ¬ k < 5 from h]
theorem fw_pos {k : Nat} (h : k < 5) : 8 ≤ fw k := by rcases five h with rfl | rfl | rfl | rfl | rfl <;> decide
theorem ff_fw {k : Nat} (h : k < 5) : ff k + fw k ≤ 104 := by rcases five h with rfl | rfl | rfl | rfl | rfl <;> decide
theorem hvar_lt {b : Nat} (h : b < 104) (nx : Bool) : hvar b nx < 220 := by unfold hvar; cases nx <;> simp <;> omega
theorem fvar_lt {k b : Nat} (hk : k < 5) (hb : b < fw k) (nx : Bool) : fvar k b nx < 220 := hvar_lt (by have := ff_fw hk; omega) nx

/-- Bit i of field k, counted from the last one. -/
def fbit (k : Nat) (nx : Bool) (a : Nat → Bool) (i : Nat) : Bool := a (fvar k (fw k - 1 - i) nx)
def fval (k : Nat) (nx : Bool) (a : Nat → Bool) : Nat := bval (fbit k nx a) (fw k)
def abF (k : Nat) (nx : Bool) (lo j : Nat) : (Nat → Bool) → Bool := fun a => aboveB lo (fbit k nx a) j
def beF (k : Nat) (nx : Bool) (hi j : Nat) : (Nat → Bool) → Bool := fun a => belowB hi (fbit k nx a) j
def wiF (k : Nat) (nx : Bool) (ad ma j : Nat) : (Nat → Bool) → Bool := fun a => wildB ad ma (fbit k nx a) j

section
variable {k j : Nat} {nx : Bool}
theorem fvar_eq (k b : Nat) (nx : Bool) : fvar k b nx = 12 + 2 * (ff k + b) + (if nx then 1 else 0) := rfl
theorem nx_le (nx : Bool) : (if nx then 1 else 0) ≤ 1 := by cases nx <;> simp

theorem abF_rd (lo : Nat) : ∀ j, j ≤ fw k → Rd (fvar k (fw k - j) nx) (fend k) (abF k nx lo j)
  | 0, _ => Rd.const _ _ _
  | j + 1, h => by
    have ih := abF_rd lo j (by omega)
    have e : fw k - (j + 1) = fw k - 1 - j := by omega
    have := fvar_eq k (fw k - j) nx
    have := fvar_eq k (fw k - (j + 1)) nx
    have he : fend k = 12 + 2 * (ff k + fw k) := rfl
    have hn := nx_le nx
    have h1 : Rd (fvar k (fw k - (j + 1)) nx) (fend k) (fun a => fbit k nx a j) := by
      have := Rd.var (fvar k (fw k - (j + 1)) nx)
      rw [e] at this ⊢
      exact this.mono (Nat.le_refl _) (by rw [← e]; omega)
    have h2 := ih.mono (lo' := fvar k (fw k - (j + 1)) nx) (hi' := fend k) (by omega) (Nat.le_refl _)
    intro a b hab
    show aboveB _ _ _ = aboveB _ _ _
    simp only [aboveB]
    rw [show fbit k nx a j = fbit k nx b j from h1 a b hab, show aboveB lo (fbit k nx a) j = aboveB lo (fbit k nx b) j from h2 a b hab]
theorem beF_rd (hi : Nat) : ∀ j, j ≤ fw k → Rd (fvar k (fw k - j) nx) (fend k) (beF k nx hi j)
  | 0, _ => Rd.const _ _ _
  | j + 1, h => by
    have ih := beF_rd hi j (by omega)
    have e : fw k - (j + 1) = fw k - 1 - j := by omega
    have := fvar_eq k (fw k - j) nx
    have := fvar_eq k (fw k - (j + 1)) nx
    have he : fend k = 12 + 2 * (ff k + fw k) := rfl
    have hn := nx_le nx
    have h1 : Rd (fvar k (fw k - (j + 1)) nx) (fend k) (fun a => fbit k nx a j) := by
      have := Rd.var (fvar k (fw k - (j + 1)) nx)
      rw [e] at this ⊢
      exact this.mono (Nat.le_refl _) (by rw [← e]; omega)
    have h2 := ih.mono (lo' := fvar k (fw k - (j + 1)) nx) (hi' := fend k) (by omega) (Nat.le_refl _)
    intro a b hab
    show belowB _ _ _ = belowB _ _ _
    simp only [belowB]
    rw [show fbit k nx a j = fbit k nx b j from h1 a b hab, show belowB hi (fbit k nx a) j = belowB hi (fbit k nx b) j from h2 a b hab]
theorem wiF_rd (ad ma : Nat) : ∀ j, j ≤ fw k → Rd (fvar k (fw k - j) nx) (fend k) (wiF k nx ad ma j)
  | 0, _ => Rd.const _ _ _
  | j + 1, h => by
    have ih := wiF_rd ad ma j (by omega)
    have e : fw k - (j + 1) = fw k - 1 - j := by omega
    have := fvar_eq k (fw k - j) nx
    have := fvar_eq k (fw k - (j + 1)) nx
    have he : fend k = 12 + 2 * (ff k + fw k) := rfl
    have hn := nx_le nx
    have h1 : Rd (fvar k (fw k - (j + 1)) nx) (fend k) (fun a => fbit k nx a j) := by
      have := Rd.var (fvar k (fw k - (j + 1)) nx)
      rw [e] at this ⊢
      exact this.mono (Nat.le_refl _) (by rw [← e]; omega)
    have h2 := ih.mono (lo' := fvar k (fw k - (j + 1)) nx) (hi' := fend k) (by omega) (Nat.le_refl _)
    intro a b hab
    show wildB _ _ _ _ = wildB _ _ _ _
    simp only [wildB]
    rw [show fbit k nx a j = fbit k nx b j from h1 a b hab, show wildB ad ma (fbit k nx a) j = wildB ad ma (fbit k nx b) j from h2 a b hab]

/-- One bit above what is there. -/
theorem and_bit {F : (Nat → Bool) → Bool} {s : Nat} (hk : k < 5) (hj : j < fw k) (hF : Rd (fvar k (fw k - j) nx) (fend k) F) (hs : PSt 220 F s) (x : Bool) : PSt 220 (fun a => (fbit k nx a j ^^ x) && F a) (s + 3) := by
  have e : fw k - 1 - j = fw k - (j + 1) := by omega
  have h1 := fvar_eq k (fw k - j) nx
  have h2 := fvar_eq k (fw k - 1 - j) nx
  have h3 : fend k = 12 + 2 * (ff k + fw k) := rfl
  have h4 := ff_fw hk
  have h5 := nx_le nx
  have hv : Rd (fvar k (fw k - 1 - j) nx) (fvar k (fw k - 1 - j) nx + 1) (fun a => fbit k nx a j ^^ x) := fun a b hab => by
    show (a _ ^^ x) = (b _ ^^ x)
    rw [hab _ (Nat.le_refl _) (by omega)]
  have hp : PSt 220 (fun a => fbit k nx a j ^^ x) 2 := by
    have := PSt.var 220 (fvar k (fw k - 1 - j) nx) (by omega)
    cases x
    · exact this.congr (fun a => by show (a _ ^^ false) = a _; simp)
    · exact this.not.congr (fun a => by show (a _ ^^ true) = !a _; simp)
  have hF' : Rd (fvar k (fw k - j) nx) 220 F := by
    intro a b hab
    refine hF a b (fun v g1 g2 => hab v g1 ?_)
    omega
  exact (PSt.and_above hv hF' (by omega) (by omega) (Nat.le_refl _) hp hs).mono (by omega)
theorem or_bit {F : (Nat → Bool) → Bool} {s : Nat} (hk : k < 5) (hj : j < fw k) (hF : Rd (fvar k (fw k - j) nx) (fend k) F) (hs : PSt 220 F s) (x : Bool) : PSt 220 (fun a => (fbit k nx a j ^^ x) || F a) (s + 3) :=
  (and_bit hk hj hF.not hs.not (!x)).not.congr (fun a => by cases fbit k nx a j <;> cases x <;> cases F a <;> rfl)

theorem abF_st (hk : k < 5) (lo : Nat) : ∀ j, j ≤ fw k → PSt 220 (abF k nx lo j) (1 + 3 * j)
  | 0, _ => PSt.const _ _
  | j + 1, h => by
    have ih := abF_st hk lo j (by omega)
    have rd := abF_rd (k := k) (nx := nx) lo j (by omega)
    by_cases hb : lo.testBit j = true
    · exact ((and_bit hk (by omega) rd ih false).congr (fun a => by show aboveB _ _ _ = _; simp only [aboveB, hb, if_true, Bool.xor_false]; rfl)).mono (by omega)
    · exact ((or_bit hk (by omega) rd ih false).congr (fun a => by show aboveB _ _ _ = _; simp only [aboveB, hb, Bool.xor_false]; rfl)).mono (by omega)
theorem beF_st (hk : k < 5) (hi : Nat) : ∀ j, j ≤ fw k → PSt 220 (beF k nx hi j) (1 + 3 * j)
  | 0, _ => PSt.const _ _
  | j + 1, h => by
    have ih := beF_st hk hi j (by omega)
    have rd := beF_rd (k := k) (nx := nx) hi j (by omega)
    by_cases hb : hi.testBit j = true
    · exact ((or_bit hk (by omega) rd ih true).congr (fun a => by show belowB _ _ _ = _; simp only [belowB, hb, if_true, Bool.xor_true]; rfl)).mono (by omega)
    · exact ((and_bit hk (by omega) rd ih true).congr (fun a => by show belowB _ _ _ = _; simp only [belowB, hb, Bool.xor_true]; rfl)).mono (by omega)
theorem wiF_st (hk : k < 5) (ad ma : Nat) : ∀ j, j ≤ fw k → PSt 220 (wiF k nx ad ma j) (1 + 3 * j)
  | 0, _ => PSt.const _ _
  | j + 1, h => by
    have ih := wiF_st hk ad ma j (by omega)
    have rd := wiF_rd (k := k) (nx := nx) ad ma j (by omega)
    by_cases hb : ma.testBit j = true
    · exact (ih.congr (fun a => by show wildB _ _ _ _ = _; simp only [wildB, hb, if_true]; rfl)).mono (by omega)
    · exact ((and_bit hk (by omega) rd ih (!ad.testBit j)).congr (fun a => by
        show wildB _ _ _ _ = _
        simp only [wildB, hb]
        show ((fbit k nx a j == ad.testBit j) && _) = _
        congr 1
        cases fbit k nx a j <;> cases ad.testBit j <;> rfl)).mono (by omega)
end

/-- The packets whose field k is at least lo and at most hi. -/
def rangeF (k : Nat) (nx : Bool) (lo hi : Nat) : (Nat → Bool) → Bool := fun a => abF k nx lo (fw k) a && beF k nx hi (fw k) a
theorem rangeF_eq {k : Nat} {nx : Bool} {lo hi : Nat} (h1 : lo < 2 ^ fw k) (h2 : hi < 2 ^ fw k) (a : Nat → Bool) : rangeF k nx lo hi a = decide (lo ≤ fval k nx a ∧ fval k nx a ≤ hi) := by
  unfold rangeF abF beF
  rw [aboveB_eq, belowB_eq, Nat.mod_eq_of_lt h1, Nat.mod_eq_of_lt h2, Bool.decide_and]
  rfl
theorem rangeF_st {k : Nat} {nx : Bool} (hk : k < 5) (lo hi : Nat) : PSt 220 (rangeF k nx lo hi) 10000 := by
  have h := fw_le k
  have := (PSt.op (fun x y => x && y) (abF_st (nx := nx) hk lo (fw k) (Nat.le_refl _)) (beF_st (nx := nx) hk hi (fw k) (Nat.le_refl _)))
  refine PSt.mono this ?_
  have : (1 + 3 * fw k) * (1 + 3 * fw k) ≤ 100 * 100 := Nat.mul_le_mul (by omega) (by omega)
  omega
theorem rangeF_rd {k : Nat} {nx : Bool} (lo hi : Nat) : Rd (fvar k 0 nx) (fend k) (rangeF k nx lo hi) := by
  have h1 := abF_rd (k := k) (nx := nx) lo (fw k) (Nat.le_refl _)
  have h2 := beF_rd (k := k) (nx := nx) hi (fw k) (Nat.le_refl _)
  rw [Nat.sub_self] at h1 h2
  exact Rd.op (fun x y => x && y) h1 h2

/-! ### packets -/
structure Pkt where
  src : Nat
  dst : Nat
  proto : Int
  sport : Int
  dport : Int
def u32 (x : Int) : Nat := (x % 4294967296).toNat
def Pkt.f (p : Pkt) (k : Nat) : Nat := [p.src, p.dst, u32 p.proto, u32 p.sport, u32 p.dport].getD k 0
structure Pkt.ok (p : Pkt) : Prop where
  h0 : p.src < 4294967296
  h1 : p.dst < 4294967296
  h2 : 0 ≤ p.proto ∧ p.proto ≤ 255
  h3 : 0 ≤ p.sport ∧ p.sport ≤ 65535
  h4 : 0 ≤ p.dport ∧ p.dport ≤ 65535
theorem Pkt.ok.lt {p : Pkt} (h : p.ok) {k : Nat} (hk : k < 5) : p.f k < 2 ^ fw k := by
  obtain ⟨h0, h1, h2, h3, h4⟩ := h
  rcases five hk with rfl | rfl | rfl | rfl | rfl
  · exact h0
  · exact h1
  · show u32 p.proto < 256; unfold u32; omega
  · show u32 p.sport < 65536; unfold u32; omega
  · show u32 p.dport < 65536; unfold u32; omega

/-- The field that bit b of a header is in, and the bit of the header of a packet. -/
def fieldOf (b : Nat) : Nat := if b < 32 then 0 else if b < 64 then 1 else if b < 72 then 2 else if b < 88 then 3 else 4
def Pkt.bit (p : Pkt) (b : Nat) : Bool := (p.f (fieldOf b)).testBit (fw (fieldOf b) - 1 - (b - ff (fieldOf b)))
theorem fieldOf_at {k b : Nat} (hk : k < 5) (hb : b < fw k) : fieldOf (ff k + b) = k := by
  unfold fieldOf
  rcases five hk with rfl | rfl | rfl | rfl | rfl <;> simp [ff, fw] at hb ⊢ <;> (repeat' split) <;> omega
theorem Pkt.bit_at (p : Pkt) {k b : Nat} (hk : k < 5) (hb : b < fw k) : p.bit (ff k + b) = (p.f k).testBit (fw k - 1 - b) := by
  unfold Pkt.bit
  rw [fieldOf_at hk hb, Nat.add_sub_cancel_left]

/-- The assignment of failed links, a current and a next packet. -/
def encF (down : Nat → Bool) (p q : Pkt) (v : Nat) : Bool := if v < 12 then down v else if (v - 12) % 2 = 0 then p.bit ((v - 12) / 2) else q.bit ((v - 12) / 2)
theorem enc_bit (down : Nat → Bool) (p q : Pkt) (b : Nat) (nx : Bool) : encF down p q (hvar b nx) = (if nx then q else p).bit b := by
  unfold encF hvar
  rw [if_neg (by omega)]
  cases nx
  · have h1 : (12 + 2 * b + 0 - 12) % 2 = 0 := by omega
    have h2 : (12 + 2 * b + 0 - 12) / 2 = b := by omega
    simp only [Bool.false_eq_true, if_false, h1, h2, if_true]
  · have h1 : (12 + 2 * b + 1 - 12) % 2 = 1 := by omega
    have h2 : (12 + 2 * b + 1 - 12) / 2 = b := by omega
    simp only [if_true, h1, h2]
    rw [if_neg (by omega)]
theorem fval_enc (down : Nat → Bool) {p q : Pkt} (hp : p.ok) (hq : q.ok) {k : Nat} (hk : k < 5) (nx : Bool) {a : Nat → Bool} (ha : ∀ v, v < 220 → a v = encF down p q v) : fval k nx a = (if nx then q else p).f k := by
  have hz : (if nx then q else p).ok := by cases nx <;> simp [hp, hq]
  have e : bval (fbit k nx a) (fw k) = bval (fun i => ((if nx then q else p).f k).testBit i) (fw k) := bval_congr _ (fun i hi => by
    unfold fbit
    rw [ha _ (fvar_lt hk (by omega) nx)]
    unfold fvar
    rw [enc_bit, Pkt.bit_at _ hk (by omega)]
    congr 1
    omega)
  unfold fval
  rw [e, bval_testBit, Nat.mod_eq_of_lt (hz.lt hk)]

end Go.Proofs.YtdgnbbmgcgfibaaGreatDoor

namespace Go.Proofs.YtdgnbbmgcgfibaaGreatDoor
open Go.RowKit

/-- The table of the fields lies in its variable. -/
def Gl (w : World) : Prop := ∀ i, i < 10 → w.cell? ⟨0, i, none⟩ = some (.int .i64 ([0, 32, 32, 32, 64, 8, 72, 16, 88, 16].getD i 0))
theorem Gl.lt {w : World} (h : Gl w) : 0 < w.heap.size := World.block_lt_of_cell? _ _ (h 0 (by omega))
theorem Gl.kp {A : Nat → Prop} {w w' : World} (h : Gl w) (k : Kp A w w') (hn : ¬ A 0) : Gl w' := fun i hi => by rw [k.cell h.lt hn]; exact h i hi
theorem Gl.no {w w' : World} (h : Gl w) (k : Kp No w w') : Gl w' := h.kp k (fun x => x)

structure Hf (w0 : World) (p : Nat) (L0 : Lay) (n c : Nat) (w : World) (M : Mgr) (L : Lay) (B : List (Int × Bfn)) : Prop where
  sd : Sd w0 p L0 w M L
  qk : Qk n c M B
  gl : Gl w
  off : ¬ L.at p 0

section
variable {w0 w w' : World} {p n c : Nat} {L0 L : Lay} {M M' : Mgr} {B : List (Int × Bfn)}
theorem Hf.rep (h : Hf w0 p L0 n c w M L B) : Rep w p M L := h.sd.rep
theorem Hf.start (R : Rep w p M L) (q : Qk n c M B) (g : Gl w) (o : ¬ L.at p 0) : Hf w p L n c w M L B := ⟨Sd.start R, q, g, o⟩
theorem Hf.no (h : Hf w0 p L0 n c w M L B) (k : Kp No w w') : Hf w0 p L0 n c w' M L B := ⟨h.sd.no k, h.qk, h.gl.no k, h.off⟩
theorem Hf.sub {B' : List (Int × Bfn)} (h : Hf w0 p L0 n c w M L B) (hb : ∀ x, x ∈ B' → x ∈ B) : Hf w0 p L0 n c w M L B' := ⟨h.sd, h.qk.sub hb, h.gl, h.off⟩
theorem Hf.mono {c' : Nat} (h : Hf w0 p L0 n c w M L B) (hc : c ≤ c') : Hf w0 p L0 n c' w M L B := ⟨h.sd, h.qk.mono hc, h.gl, h.off⟩
theorem Hf.consts (h : Hf w0 p L0 n c w M L B) : Hf w0 p L0 n c w M L ((0, fun _ => false) :: (1, fun _ => true) :: B) := ⟨h.sd, h.qk.consts, h.gl, h.off⟩
theorem Hf.cong {r : Int} {F G : Bfn} (h : Hf w0 p L0 n c w M L ((r, F) :: B)) (e : ∀ a, F a = G a) : Hf w0 p L0 n c w M L ((r, G) :: B) := ⟨h.sd, h.qk.cong e, h.gl, h.off⟩
theorem Hf.ret_step {v : Value} {e : Ending} (h : Hf w0 p L0 n c w M L B) (r : Ret p L w M' v e w') {c' : Nat} {B' : List (Int × Bfn)} (q : Qk n c' M' B') : e = .returned v ∧ ∃ L', Hf w0 p L0 n c' w' M' L' B' := by
  obtain ⟨L', he, rr, k, f⟩ := r
  refine ⟨he, L', ⟨rr, h.sd.kp.trans h.sd.fr k, fun x hx => ?_⟩, q, h.gl.kp k h.off, fun hx => ?_⟩
  · rcases f x hx with h1 | h1
    · exact h.sd.fr x h1
    · right; have := h.sd.kp.size; omega
  · rcases f _ hx with h1 | h1
    · exact h.off h1
    · have := h.gl.lt; omega
theorem Hf.step {F : Bfn} {e : Ending} {c' : Nat} (h : Hf w0 p L0 n c w M L B) (o : OpQ p n c' L w F B e w') : ∃ r M' L', e = .returned (.int .i64 r) ∧ 0 ≤ r ∧ Hf w0 p L0 n c' w' M' L' ((r, F) :: B) := by
  obtain ⟨r, M', hr, q, h0⟩ := o
  obtain ⟨he, L', hf⟩ := h.ret_step hr q
  exact ⟨r, M', L', he, h0, hf⟩
/-- A Ref of the bank is handed back. -/
theorem Hf.ret {B0 : List (Int × Bfn)} {r : Int} {F : Bfn} {c' : Nat} (h : Hf w0 p L0 n c w M L B) (hm : (r, F) ∈ B) (hb : ∀ x, x ∈ B0 → x ∈ B) (hc : c ≤ c') : OpQ p n c' L0 w0 F B0 (.returned (.int .i64 r)) w :=
  ⟨r, M, h.sd.ret _, (h.qk.mono hc).sub (fun x hx => by
    rcases List.mem_cons.1 hx with rfl | hx
    · exact hm
    · exact hb x hx), h.qk.nonneg hm⟩
end

/-- 'Failure'. -/
theorem Failure_ok (x : Int) (w : World) : Calls Tryz.prog 55 #[.int .i64 x] w fun e w' => e = .returned (.int .i64 (if 0 ≤ x ∧ x < 12 then x else -1)) ∧ w = w' := by
  by_cases h0 : 0 ≤ x
  · by_cases h1 : x < 12
    · rw [if_pos ⟨h0, h1⟩]
      go_enter Tryz.func55, Tryz.ntmps55
      go_wp2_with fail
      go_ret
      exact ⟨rfl, rfl⟩
    · rw [if_neg (fun h => h1 h.2)]
      go_enter Tryz.func55, Tryz.ntmps55
      go_wp2_with fail
      go_ret
      exact ⟨rfl, rfl⟩
  · rw [if_neg (fun h => h0 h.1)]
    go_enter Tryz.func55, Tryz.ntmps55
    go_wp2_with fail
    go_ret
    exact ⟨rfl, rfl⟩

end Go.Proofs.YtdgnbbmgcgfibaaGreatDoor

namespace Go.Proofs.YtdgnbbmgcgfibaaGreatDoor
open Go.RowKit

theorem Gl.f {w : World} (g : Gl w) {k : Nat} (hk : k < 5) : w.cell? ⟨0, 2 * k, none⟩ = some (.int .i64 (ff k : Int)) ∧ w.cell? ⟨0, 2 * k + 1, none⟩ = some (.int .i64 (fw k : Int)) := by
  refine ⟨?_, ?_⟩
  · rw [g (2 * k) (by omega)]; rcases five hk with rfl | rfl | rfl | rfl | rfl <;> rfl
  · rw [g (2 * k + 1) (by omega)]; rcases five hk with rfl | rfl | rfl | rfl | rfl <;> rfl

set_option maxRecDepth 100000 in
theorem Width_in (k : Nat) (hk : k < 5) {w : World} (g : Gl w) : Calls Tryz.prog 63 #[.int .i64 (k : Int)] w fun e w' => e = .returned (.int .i64 (fw k : Int)) ∧ w = w' := by
  have hc := (g.f hk).2
  rcases five hk with rfl | rfl | rfl | rfl | rfl
  all_goals
    go_enter Tryz.func63, Tryz.ntmps63
    go_wp2_with fail
    go_ret
    exact ⟨rfl, rfl⟩

set_option maxRecDepth 100000 in
theorem Width_out (k : Int) (hk : ¬ (0 ≤ k ∧ k < 5)) (w : World) : Calls Tryz.prog 63 #[.int .i64 k] w fun e w' => e = .returned (.int .i64 0) ∧ w = w' := by
  by_cases h0 : k < 0
  · go_enter Tryz.func63, Tryz.ntmps63
    go_wp2_with fail
    go_ret
    exact ⟨rfl, rfl⟩
  · have h5 : 5 ≤ k := by omega
    go_enter Tryz.func63, Tryz.ntmps63
    go_wp2_with fail
    go_ret
    exact ⟨rfl, rfl⟩

set_option maxRecDepth 100000 in
theorem variable_ok' (b : Nat) (nx : Bool) (hb : b ≤ 1000) (w : World) : Calls Tryz.prog 98 #[.int .i64 (b : Int), .bool nx] w fun e w' => e = .returned (.int .i64 (hvar b nx : Int)) ∧ w = w' := by
  have e : (hvar b nx : Int) = 12 + 2 * (b : Int) + (if nx then 1 else 0) := by unfold hvar; cases nx <;> simp
  rw [e]
  cases nx
  all_goals
    go_enter Tryz.func98, Tryz.ntmps98
    go_wp2_with fail
    go_ret
    exact ⟨by simp, rfl⟩

set_option maxRecDepth 100000 in
theorem HVar_in (k b : Nat) (nx : Bool) (hk : k < 5) (hb : b < fw k) {w : World} (g : Gl w) : Calls Tryz.prog 64 #[.int .i64 (k : Int), .int .i64 (b : Int), .bool nx] w fun e w' => e = .returned (.int .i64 (fvar k b nx : Int)) ∧ w = w' := by
  have hc := (g.f hk).1
  have W := Lib.hid (Width_in k hk g)
  have V := Lib.hid (variable_ok' (ff k + b) nx (by have := ff_fw hk; omega) w)
  have hbi : (b : Int) < (fw k : Int) := by omega
  have hb0 : ¬ (b : Int) < 0 := by omega
  have hle := fw_le k
  have hff := ff_fw hk
  unfold fvar
  generalize fw k = f at *
  generalize hvar (ff k + b) nx = r at *
  have hn : ¬ ((f : Int) ≤ (b : Int)) := by omega
  clear g hb
  rcases five hk with rfl | rfl | rfl | rfl | rfl
  all_goals
    go_enter Tryz.func64, Tryz.ntmps64
    go_wp2_with fail
    refine W.out.mono ?_
    rintro e w' ⟨rfl, rfl⟩
    go_wp2_with fail
    first
    | refine V.out.mono ?_
    | (have e := V.out; simp only [ff, List.getD, Nat.zero_add, Int.natCast_add] at e; refine Calls.mono e ?_)
    rintro e w' ⟨rfl, rfl⟩
    go_wp2_with fail
    go_ret
    exact ⟨rfl, rfl⟩

end Go.Proofs.YtdgnbbmgcgfibaaGreatDoor

namespace Go.Proofs.YtdgnbbmgcgfibaaGreatDoor
open Go.RowKit

theorem bit_of {k : IntKind} {j : Nat} (hj : j ≤ k.bits) (hj1 : 1 ≤ j) (hk : ∀ n : Int, 0 ≤ n → n < 2 ^ j → k.wrap n = n) {x s : Nat} (hx : x < 2 ^ j) : (bits BinOp.and k ((x : Int) / 2 ^ s) 1 == 1) = x.testBit s := by
  have h : (x : Int) / 2 ^ s = ((x / 2 ^ s : Nat) : Int) := by simp
  have hlt : x / 2 ^ s < 2 ^ j := Nat.lt_of_le_of_lt (Nat.div_le_self _ _) hx
  have := bits_mask k j hj hk 1 hj1 ((x / 2 ^ s : Nat) : Int) (Int.natCast_nonneg _) (by exact_mod_cast hlt)
  rw [h, show (1 : Int) = 2 ^ 1 - 1 from rfl, this, Nat.testBit_eq_decide_div_mod_eq]
  generalize x / 2 ^ s = y
  rw [Bool.eq_iff_iff]
  simp
  omega
theorem bit_u32 {x s : Nat} (hx : x < 4294967296) : (bits BinOp.and IntKind.u32 ((x : Int) / 2 ^ s) 1 == 1) = x.testBit s :=
  bit_of (j := 32) (by decide) (by omega) (fun n a b => by rw [IntKind.wrap_u32]; omega) hx

def pktV (p : Pkt) : Value := .agg #[.int .u32 (p.src : Int), .int .u32 (p.dst : Int), .int .i64 p.proto, .int .i64 p.sport, .int .i64 p.dport]
def valsV (p : Pkt) : Value := .agg #[.int .u32 (p.f 0 : Int), .int .u32 (p.f 1 : Int), .int .u32 (p.f 2 : Int), .int .u32 (p.f 3 : Int), .int .u32 (p.f 4 : Int)]
theorem u32_lt (x : Int) : u32 x < 4294967296 := by unfold u32; omega
structure Pkt.in32 (p : Pkt) : Prop where
  h0 : p.src < 4294967296
  h1 : p.dst < 4294967296
theorem Pkt.in32.f {p : Pkt} (h : p.in32) {k : Nat} (hk : k < 5) : p.f k < 4294967296 := by
  rcases five hk with rfl | rfl | rfl | rfl | rfl
  · exact h.h0
  · exact h.h1
  · exact u32_lt _
  · exact u32_lt _
  · exact u32_lt _
theorem Pkt.ok.in32 {p : Pkt} (h : p.ok) : p.in32 := ⟨h.h0, h.h1⟩

set_option maxRecDepth 100000 in
theorem values_ok (p : Pkt) (w : World) : Calls Tryz.prog 91 #[pktV p] w fun e w' => e = .returned (valsV p) ∧ Kp No w w' := by
  unfold pktV
  go_enter Tryz.func91, Tryz.ntmps91
  go_wp2_with fail
  refine bodyPost_ret (v := valsV p) ?_ rfl ⟨rfl, ?_⟩
  · unfold valsV
    simp [results, Tryz.results91, go_sem]
    refine ⟨rfl, rfl, ?_, ?_, ?_⟩
    · show _ = ((u32 p.proto : Nat) : Int); unfold u32; omega
    · show _ = ((u32 p.sport : Nat) : Int); unfold u32; omega
    · show _ = ((u32 p.dport : Nat) : Int); unfold u32; omega
  · exact (Kp.alloc _).trans_no (Kp.alloc _)

set_option maxRecDepth 100000 in
theorem index_vals (p : Pkt) {k : Nat} (hk : k < 5) (w : World) : (Instr.index 164 (.agg #[.int .u32 (p.f 0 : Int), .int .u32 (p.f 1 : Int), .int .u32 (p.f 2 : Int), .int .u32 (p.f 3 : Int), .int .u32 (p.f 4 : Int)]) (.int .i64 (k : Int))).run Tryz.prog w = .ok (.int .u32 (p.f k : Int)) w := by
  have h27 : Tryz.prog.cellsOf 42 = 1 := by kernel_rfl
  rcases five hk with rfl | rfl | rfl | rfl | rfl <;> rfl

/-! ### a row of values of a function -/
def boolRow (G : Nat → Bool) : List Value := (List.range 220).map fun v => .bool (G v)
theorem boolRow_len (G : Nat → Bool) : (boolRow G).length = 220 := by simp [boolRow]
theorem boolRow_at (G : Nat → Bool) {v : Nat} (h : v < 220) : (boolRow G)[v]? = some (.bool (G v)) := by simp [boolRow, h]
theorem boolRow_set (G : Nat → Bool) (v : Nat) (b : Bool) : (boolRow G).set v (.bool b) = boolRow (Mgr.upd G v b) := by
  apply List.ext_getElem?
  intro i
  by_cases hi : i < 220
  · rw [boolRow_at _ hi]
    by_cases e : v = i
    · subst e; rw [List.getElem?_set_self (by rw [boolRow_len]; exact hi)]; simp
    · rw [List.getElem?_set_ne e, boolRow_at _ hi, Mgr.upd_other _ _ _ _ (Ne.symm e)]
  · rw [List.getElem?_eq_none (by rw [List.length_set, boolRow_len]; omega), List.getElem?_eq_none (by rw [boolRow_len]; omega)]

/-- The array of an assignment while it is filled. -/
structure PutJ (w : World) (B g : Nat) (G : Nat → Bool) (wr : World) : Prop where
  row : wr.ownsRow B 4 1 (.slice (some ⟨g, 0, none⟩) 220 220) 220 (boolRow G)
  kp : Kp (fun x => x = g) w wr
  gl : Gl wr
  ne : 0 ≠ g
theorem PutJ.no {w : World} {B g : Nat} {G : Nat → Bool} {wr w' : World} (j : PutJ w B g G wr) (k : Kp No wr w') : PutJ w B g G w' := ⟨ownsRow_kp j.row k (fun _ _ x => x), j.kp.trans_no k, j.gl.no k, j.ne⟩
theorem PutJ.cell {w : World} {B g : Nat} {G : Nat → Bool} {wr : World} (j : PutJ w B g G wr) {v : Nat} (hv : v < 220) : wr.cell? ⟨g, v, none⟩ = some (.bool (G v)) ∧ wr.frozen? ⟨g, v, none⟩ = false := by
  obtain ⟨g', c, hq, _, _, _, hc, hz⟩ := ownsRow_open j.row (by omega)
  cases hq
  exact ⟨hc v _ (boolRow_at G hv), hz v⟩
theorem PutJ.put {w : World} {B g : Nat} {G : Nat → Bool} {wr : World} (j : PutJ w B g G wr) (v : Nat) (b : Bool) : PutJ w B g (Mgr.upd G v b) (wr.setCell ⟨g, v, none⟩ (.bool b)) := by
  refine ⟨?_, ?_, j.gl.kp (Kp.setCell _ _) j.ne, j.ne⟩
  · have := ownsRow_put j.row v (.bool b)
    rw [boolRow_set] at this
    exact this
  · exact j.kp.trans (A' := fun x => x = g) (fun x e => .inl e) ((Kp.setCell _ _).mono (fun _ _ e => e))
theorem PutJ.congr {w : World} {B g : Nat} {G H : Nat → Bool} {wr : World} (j : PutJ w B g G wr) (e : ∀ v, v < 220 → G v = H v) : PutJ w B g H wr := by
  have : boolRow G = boolRow H := by
    unfold boolRow
    exact List.map_congr_left (fun v hv => by rw [e v (List.mem_range.1 hv)])
  exact ⟨this ▸ j.row, j.kp, j.gl, j.ne⟩

/-- The first t bits of a header are written. -/
def putG (G : Nat → Bool) (p : Pkt) (nx : Bool) (t : Nat) (v : Nat) : Bool := if 12 ≤ v ∧ (v - 12) % 2 = (if nx then 1 else 0) ∧ (v - 12) / 2 < t then p.bit ((v - 12) / 2) else G v
theorem putG_zero (G : Nat → Bool) (p : Pkt) (nx : Bool) : putG G p nx 0 = G := by funext v; unfold putG; rw [if_neg (by omega)]
theorem putG_succ (G : Nat → Bool) (p : Pkt) (nx : Bool) (t : Nat) : Mgr.upd (putG G p nx t) (hvar t nx) (p.bit t) = putG G p nx (t + 1) := by
  funext v
  unfold Mgr.upd
  have e := hvar
  by_cases hv : v = hvar t nx
  · subst hv
    rw [if_pos rfl]
    unfold putG hvar
    cases nx
    · have h1 : (12 + 2 * t + 0 - 12) / 2 = t := by omega
      rw [if_pos ⟨by simp, by simp, by simp⟩]
      simp
    · have h1 : (12 + 2 * t + 1 - 12) / 2 = t := by omega
      simp only [if_true]
      rw [if_pos ⟨by omega, by omega, by omega⟩, h1]
  · rw [if_neg hv]
    unfold putG
    unfold hvar at hv
    by_cases h : 12 ≤ v ∧ (v - 12) % 2 = (if nx then 1 else 0) ∧ (v - 12) / 2 < t
    · rw [if_pos h, if_pos ⟨h.1, h.2.1, by omega⟩]
    · rw [if_neg h, if_neg]
      rintro ⟨h1, h2, h3⟩
      apply h
      refine ⟨h1, h2, ?_⟩
      cases nx <;> simp at hv h2 ⊢ <;> omega
def fsum (k : Nat) : Nat := [0, 32, 64, 72, 88, 104].getD k 0
theorem fsum_lt {k : Nat} (h : k < 5) : fsum k = ff k ∧ fsum (k + 1) = ff k + fw k := by rcases five h with rfl | rfl | rfl | rfl | rfl <;> decide

def PutO (w : World) (B g : Nat) (G : Nat → Bool) (p : Pkt) (nx : Bool) (gk : Nat) (s : Value) (wr : World) : Prop := ∃ k, k + gk = 5 ∧ s = .int .i64 (k : Int) ∧ PutJ w B g (putG G p nx (fsum k)) wr
def PutI (w : World) (B g : Nat) (G : Nat → Bool) (p : Pkt) (nx : Bool) (k f gk : Nat) (s : Value) (wr : World) : Prop := ∃ b, b + gk = f ∧ s = .int .i64 (b : Int) ∧ PutJ w B g (putG G p nx (ff k + b)) wr

set_option maxRecDepth 100000 in
set_option maxHeartbeats 2000000 in
theorem put_ok (p : Pkt) (nx : Bool) (hp : p.in32) {w0 w : World} {B g : Nat} {G : Nat → Bool} (j : PutJ w0 B g G w) :
    Calls Tryz.prog 56 #[.slice (some ⟨g, 0, none⟩) 220 220, pktV p, .bool nx] w fun e w' => e = .returned (.tuple #[]) ∧ PutJ w0 B g (putG G p nx 104) w' := by
  have VAL := Lib.hid (fun w => values_ok p w)
  have J := Lib.hid j
  have HP := Lib.hid hp
  clear j hp
  unfold pktV at VAL ⊢
  go_enter Tryz.func56, Tryz.ntmps56
  go_wp2_with fail
  refine (VAL.out _).mono ?_
  rintro e w1 ⟨rfl, k1⟩
  have J0 : Hid (PutO w0 B g G p nx 5 (.int .i64 0) w1) := Lib.hid ⟨0, by omega, rfl, by rw [show fsum 0 = 0 from rfl, putG_zero]; exact J.out.no ((Kp.alloc _).trans_no k1)⟩
  clear k1 J VAL
  unfold valsV
  go_wp2_with fail
  go_loopg [11] 5 (fun gk s wr => PutO w0 B g G p nx gk s wr)
  case atStart => exact J0.out
  case round =>
    clear J0
    obtain ⟨k, hk, rfl, j⟩ := hrel
    by_cases hlt : k < 5
    · have J := Lib.hid j
      have HK := Lib.hid hk
      obtain ⟨e1, e2⟩ := fsum_lt hlt
      have JI : Hid (PutI w0 B g G p nx k (fw k) (fw k) (.int .i64 0) wr) := Lib.hid ⟨0, by omega, rfl, by rw [← e1]; exact j⟩
      have hf32 := HP.out.f hlt
      have W := Lib.hid (fun (x : World) (h : Gl x) => Width_in k hlt h)
      have V := Lib.hid (fun (x : World) (h : Gl x) (b : Nat) (hb : b < fw k) => HVar_in k b nx hlt hb h)
      have E2 := Lib.hid e2
      have BIT := Lib.hid (fun (b : Nat) (hb : b < fw k) => p.bit_at hlt hb)
      have hfw := fw_le k
      have hff := ff_fw hlt
      generalize fw k = f at *
      have hidx := index_vals p hlt wr
      have hlti : (k : Int) < 5 := by omega
      generalize p.f k = x at *
      clear hk j e1 e2
      go_wp2_with fail
      refine (W.out wr J.out.gl).mono ?_
      rintro e w' ⟨rfl, rfl⟩
      clear hidx J
      go_wp2_with fail
      go_loopg [17] f (fun gk s wr => PutI w0 B g G p nx k f gk s wr)
      case atStart => exact JI.out
      case round =>
        clear JI
        obtain ⟨b, hb, rfl, j⟩ := hrel
        by_cases hbl : b < f
        · have hv : fvar k b nx < 220 := hvar_lt (by omega) nx
          have HB := Lib.hid hb
          have hbi : (b : Int) < f := by omega
          obtain ⟨c1, z1⟩ := j.cell hv
          have hsh : (bits BinOp.and IntKind.u32 ((x : Int) / 2 ^ (f - 1 - b)) 1 == 1) = p.bit (ff k + b) := by
            rw [BIT.out b hbl]
            exact bit_u32 hf32
          have JN : Hid (PutJ w0 B g (putG G p nx (ff k + b + 1)) (wr.setCell ⟨g, fvar k b nx, none⟩ (.bool (p.bit (ff k + b))))) := Lib.hid (by
            have := j.put (fvar k b nx) (p.bit (ff k + b))
            unfold fvar at this ⊢
            rw [putG_succ] at this
            exact this)
          have VB := Lib.hid (V.out wr j.gl b hbl)
          have GLW := Lib.hid j.gl
          have hvi : (fvar k b nx : Int) < 220 := by omega
          clear hb j hv
          generalize fvar k b nx = v at *
          generalize putG G p nx (ff k + b) v = old at *
          generalize p.bit (ff k + b) = bb at *
          go_wp2_with fail
          refine VB.out.mono ?_
          rintro e w' ⟨rfl, rfl⟩
          go_wp2_with fail
          refine (W.out _ GLW.out).mono ?_
          rintro e w' ⟨rfl, rfl⟩
          go_wp2_with fail
          go_roundg (f - (b + 1))
          case measure => have := HB.out; omega
          case rel => exact ⟨b + 1, by omega, by go_num, JN.out⟩
        · obtain rfl : b = f := by omega
          have JN : Hid (PutO w0 B g G p nx (5 - (k + 1)) (.int .i64 ((k + 1 : Nat) : Int)) wr) := Lib.hid ⟨k + 1, by omega, rfl, by rw [E2.out]; exact j⟩
          have hbi : ¬ (b : Int) < b := by omega
          clear hb j hbl
          go_wp2_with fail
          go_roundg (5 - (k + 1))
          case measure => have := HK.out; omega
          case rel => exact JN.out
    · obtain rfl : k = 5 := by omega
      have J := Lib.hid j
      clear j hk hlt
      go_wp2_with fail
      go_end0
      exact ⟨rfl, J.out⟩

theorem encG (dn : Nat → Bool) (p q : Pkt) (v : Nat) (hv : v < 220) : putG (putG (fun v => decide (v < 12) && dn v) p false 104) q true 104 v = encF dn p q v := by
  unfold putG encF
  by_cases h : v < 12
  · rw [if_neg (by omega), if_neg (by omega), if_pos h]; simp [h]
  · rw [if_neg h]
    by_cases h2 : (v - 12) % 2 = 0
    · rw [if_neg (by simp; omega), if_pos ⟨by omega, by simpa using h2, by omega⟩, if_pos h2]
    · rw [if_pos ⟨by omega, by simp; omega, by omega⟩, if_neg h2]

/-- 'Encode'. -/
def dnF (l : List Int) (v : Nat) : Bool := decide ((v : Int) ∈ l)
def EncPost (w : World) (G : Nat → Bool) (e : Ending) (w' : World) : Prop := ∃ g, e = .returned (.slice (some ⟨g, 0, none⟩) 220 220) ∧ w'.ownsRow w.heap.size 4 1 (.slice (some ⟨g, 0, none⟩) 220 220) 220 (boolRow G) ∧ Kp No w w'
def EncR (w : World) (B g : Nat) (l : List Int) (gk : Nat) (s : Value) (wr : World) : Prop := ∃ k, k + gk = l.length ∧ s = .int .i64 (k : Int) ∧ PutJ w B g (fun v => decide (v < 12) && dnF (l.take k) v) wr

theorem make_bools (w : World) : ∃ w1, (Instr.makeSlice 72 (.int .i64 220) (.int .i64 220)).run Tryz.prog w = .ok (.slice (some ⟨w.heap.size, 0, none⟩) 220 220) w1 ∧ w1.ownsRow w.heap.size 4 1 (.slice (some ⟨w.heap.size, 0, none⟩) 220 220) 220 (boolRow (fun _ => false)) ∧ Kp No w w1 := by
  obtain ⟨j0, hj0, hy0, hy1, hy2⟩ := info_parts info_bool
  obtain ⟨w1, hrun, r1, r2⟩ := run_make_full (P := Tryz.prog) w w.heap.size 72 4 j0 _ 1 Tryz.underlying72 hj0 hy0 hy1 .i64 .i64 220 (by rw [hy2]; omega) (by rw [maxLen_val]; omega) (Nat.le_refl _)
  refine ⟨w1, hrun, ?_, (Kp.grown r2).mono (fun k _ e => by cases e)⟩
  rw [made_false] at r1
  have : boolRow (fun _ => false) = List.replicate (220 * 1) (.bool false) := by
    apply List.ext_getElem?
    intro i
    simp only [boolRow, List.getElem?_map, List.getElem?_replicate]
    by_cases h : i < 220 <;> simp [h]
  rw [this]
  exact r1

theorem enc_step (l : List Int) {k : Nat} (hk : k < l.length) {v : Nat} (hx : l.getD k 0 = (v : Int)) (hv : v < 12) : (Mgr.upd (fun v => decide (v < 12) && dnF (l.take k) v) v true) = fun v => decide (v < 12) && dnF (l.take (k + 1)) v := by
  funext u
  have e : l.take (k + 1) = l.take k ++ [l.getD k 0] := by rw [List.take_succ_eq_append_getElem hk]; simp [hk]
  unfold Mgr.upd dnF
  rw [e, hx]
  by_cases h : u = v
  · subst h; simp [hv]
  · rw [if_neg h]
    have : ((u : Int) ∈ l.take k ++ [(v : Int)]) ↔ (u : Int) ∈ l.take k := by simp; omega
    simp only [this]
theorem enc_skip (l : List Int) {k : Nat} (hk : k < l.length) (hx : ¬ (0 ≤ l.getD k 0 ∧ l.getD k 0 < 12)) : (fun v => decide (v < 12) && dnF (l.take k) v) = fun v => decide (v < 12) && dnF (l.take (k + 1)) v := by
  funext u
  have e : l.take (k + 1) = l.take k ++ [l.getD k 0] := by rw [List.take_succ_eq_append_getElem hk]; simp [hk]
  unfold dnF
  rw [e]
  by_cases h : u < 12
  · have : ((u : Int) ∈ l.take k ++ [l.getD k 0]) ↔ (u : Int) ∈ l.take k := by
      rw [List.mem_append, List.mem_singleton]
      constructor
      · rintro (h1 | h1)
        · exact h1
        · exact (hx (by omega)).elim
      · exact .inl
    simp only [this]
  · simp [h]

/-- A packet in memory. -/
structure PkAt (w : World) (b : Nat) (p : Pkt) : Prop where
  c0 : w.cell? ⟨b, 0, none⟩ = some (.int .u32 (p.src : Int))
  c1 : w.cell? ⟨b, 1, none⟩ = some (.int .u32 (p.dst : Int))
  c2 : w.cell? ⟨b, 2, none⟩ = some (.int .i64 p.proto)
  c3 : w.cell? ⟨b, 3, none⟩ = some (.int .i64 p.sport)
  c4 : w.cell? ⟨b, 4, none⟩ = some (.int .i64 p.dport)
theorem PkAt.kp {A : Nat → Prop} {w w' : World} {b : Nat} {p : Pkt} (h : PkAt w b p) (k : Kp A w w') (hn : ¬ A b) : PkAt w' b p := by
  have hb : b < w.heap.size := World.block_lt_of_cell? _ _ h.c0
  exact ⟨by rw [k.cell hb hn]; exact h.c0, by rw [k.cell hb hn]; exact h.c1, by rw [k.cell hb hn]; exact h.c2, by rw [k.cell hb hn]; exact h.c3, by rw [k.cell hb hn]; exact h.c4⟩
theorem PkAt.no {w w' : World} {b : Nat} {p : Pkt} (h : PkAt w b p) (k : Kp No w w') : PkAt w' b p := h.kp k (fun x => x)
theorem PkAt.new (w : World) (p : Pkt) (t : TypeId) : PkAt (w.alloc (.cells #[.int .u32 (p.src : Int), .int .u32 (p.dst : Int), .int .i64 p.proto, .int .i64 p.sport, .int .i64 p.dport] t)) w.heap.size p := by
  have h := heap_alloc_new w (.cells #[.int .u32 (p.src : Int), .int .u32 (p.dst : Int), .int .i64 p.proto, .int .i64 p.sport, .int .i64 p.dport] t)
  exact ⟨by rw [cell_of_row _ _ _ _ _ _ h]; rfl, by rw [cell_of_row _ _ _ _ _ _ h]; rfl, by rw [cell_of_row _ _ _ _ _ _ h]; rfl, by rw [cell_of_row _ _ _ _ _ _ h]; rfl, by rw [cell_of_row _ _ _ _ _ _ h]; rfl⟩

set_option maxRecDepth 100000 in
set_option maxHeartbeats 2000000 in
theorem Encode_ok (l : List Int) (p q : Pkt) (hp : p.in32) (hq : q.in32) {dv : Value} {w : World} (g : Gl w) (hd : SrcAt w dv 1 l.length (l.map intV)) (hl : l.length ≤ 1000000) :
    Calls Tryz.prog 22 #[dv, pktV p, pktV q] w (EncPost w (encF (dnF l) p q)) := by
  obtain ⟨mk, hmk⟩ := Classical.axiomOfChoice make_bools
  have HMK := Lib.hid (fun W => (hmk W).2)
  have hrun := fun W => (hmk W).1
  have GLW := Lib.hid g
  have HD := Lib.hid hd
  have PUTP := Lib.hid (fun (w0 w : World) (B g : Nat) (G : Nat → Bool) (j : PutJ w0 B g G w) => put_ok p false hp j)
  have PUTQ := Lib.hid (fun (w0 w : World) (B g : Nat) (G : Nat → Bool) (j : PutJ w0 B g G w) => put_ok q true hq j)
  have EG := Lib.hid (encG (dnF l) p q)
  obtain ⟨ao, c, rfl, _⟩ := hd
  clear hmk g hp hq
  unfold pktV at PUTP PUTQ ⊢
  go_enter Tryz.func22, Tryz.ntmps22
  have PP := Lib.hid ((PkAt.new w p 70).no (Kp.alloc (.cells #[.int .u32 (q.src : Int), .int .u32 (q.dst : Int), .int .i64 q.proto, .int .i64 q.sport, .int .i64 q.dport] 70)))
  have PQ := Lib.hid (PkAt.new (w.alloc (.cells #[.int .u32 (p.src : Int), .int .u32 (p.dst : Int), .int .i64 p.proto, .int .i64 p.sport, .int .i64 p.dport] 70)) q 70)
  have KW := Lib.hid ((Kp.alloc (w := w) (.cells #[.int .u32 (p.src : Int), .int .u32 (p.dst : Int), .int .i64 p.proto, .int .i64 p.sport, .int .i64 p.dport] 70)).trans_no (Kp.alloc (.cells #[.int .u32 (q.src : Int), .int .u32 (q.dst : Int), .int .i64 q.proto, .int .i64 q.sport, .int .i64 q.dport] 70)))
  have HSZ : ((w.alloc (.cells #[.int .u32 (p.src : Int), .int .u32 (p.dst : Int), .int .i64 p.proto, .int .i64 p.sport, .int .i64 p.dport] 70)).alloc (.cells #[.int .u32 (q.src : Int), .int .u32 (q.dst : Int), .int .i64 q.proto, .int .i64 q.sport, .int .i64 q.dport] 70)).heap.size = w.heap.size + 2 := by simp
  go_wp2_with fail
  generalize (w.alloc (.cells #[.int .u32 (p.src : Int), .int .u32 (p.dst : Int), .int .i64 p.proto, .int .i64 p.sport, .int .i64 p.dport] 70)).alloc (.cells #[.int .u32 (q.src : Int), .int .u32 (q.dst : Int), .int .i64 q.proto, .int .i64 q.sport, .int .i64 q.dport] 70) = wB at *
  have J0 : Hid (EncR wB w.heap.size (w.heap.size + 2) l l.length (.int .i64 0) (mk wB)) := Lib.hid (by
    obtain ⟨r1, k1⟩ := HMK.out wB
    rw [HSZ] at r1
    have hlt := GLW.out.lt
    refine ⟨0, by omega, rfl, ?_, k1.of_no, (GLW.out.no KW.out).no k1, by omega⟩
    have e : (fun v => decide (v < 12) && dnF (l.take 0) v) = fun _ => false := by funext v; simp [dnF]
    rw [e]
    rcases r1.2 with ⟨hx, _⟩ | ⟨g, cap, cur, hv, hg, r⟩
    · cases hx
    · exact ⟨r1.1, .inr ⟨g, cap, cur, hv, by omega, r⟩⟩)
  have PQ' : Hid (PkAt wB (w.heap.size + 1) q) := Lib.hid (by have := PQ.out; simpa using this)
  have HSZ' := Lib.hid HSZ
  clear hrun PQ HSZ HMK
  go_loopg [13] l.length (fun gk s wr => EncR wB w.heap.size (w.heap.size + 2) l gk s wr)
  case atStart => exact J0.out
  case round =>
    clear J0
    obtain ⟨k, hk, rfl, j⟩ := hrel
    by_cases hlt : k < l.length
    · have kw : Kp No w wr := KW.out.trans (A' := fun x => x = w.heap.size + 2) (fun x e => .inr (by omega)) j.kp
      obtain ⟨ao', c', hv', _, hcells⟩ := HD.out.no kw
      have hv1 : ao = ao' := by injection hv'
      subst hv1
      rcases hcells with hcells | ⟨g, o, rfl, hg, hcells⟩
      · rw [hcells] at hlt; simp at hlt
      have hc : wr.cell? ⟨g, o + k, none⟩ = some (.int .i64 (l.getD k 0)) := hcells k _ (by simp [hlt, intV])
      have FA := Lib.hid (fun (x : World) => Failure_ok (l.getD k 0) x)
      have hlti : (k : Int) < l.length := by omega
      have HK := Lib.hid hk
      by_cases hx : 0 ≤ l.getD k 0 ∧ l.getD k 0 < 12
      · obtain ⟨v, hv⟩ : ∃ v : Nat, l.getD k 0 = (v : Int) := ⟨(l.getD k 0).toNat, by omega⟩
        have hv12 : v < 12 := by omega
        obtain ⟨c1, z1⟩ := j.cell (v := v) (by omega)
        have JN : Hid (EncR wB w.heap.size (w.heap.size + 2) l (l.length - (k + 1)) (.int .i64 ((k + 1 : Nat) : Int)) (wr.setCell ⟨w.heap.size + 2, v, none⟩ (.bool true))) := Lib.hid ⟨k + 1, by omega, rfl, by
          have := j.put v true
          rw [enc_step l hlt hv hv12] at this
          exact this⟩
        rw [if_pos hx] at FA
        rw [hv] at FA hc
        have hvi : (v : Int) < 220 := by omega
        have hv0 : (0 : Int) ≤ v := by omega
        generalize (decide (v < 12) && dnF (l.take k) v) = old at *
        clear hk j kw hcells hx hv hv'
        go_wp2_with fail
        refine (FA.out _).mono ?_
        rintro e w' ⟨rfl, rfl⟩
        clear FA
        go_wp2_with fail
        go_roundg (l.length - (k + 1))
        case measure => have := HK.out; omega
        case rel => exact JN.out
      · have JN : Hid (EncR wB w.heap.size (w.heap.size + 2) l (l.length - (k + 1)) (.int .i64 ((k + 1 : Nat) : Int)) wr) := Lib.hid ⟨k + 1, by omega, rfl, by rw [← enc_skip l hlt hx]; exact j⟩
        rw [if_neg hx] at FA
        generalize l.getD k 0 = y at *
        clear hk j kw hcells hx hv'
        go_wp2_with fail
        refine (FA.out _).mono ?_
        rintro e w' ⟨rfl, rfl⟩
        clear FA
        go_wp2_with fail
        go_roundg (l.length - (k + 1))
        case measure => have := HK.out; omega
        case rel => exact JN.out
    · obtain rfl : k = l.length := by omega
      rw [List.take_length] at j
      obtain ⟨c0, c1, c2, c3, c4⟩ := PP.out.kp j.kp (by have := HSZ'.out; omega)
      have J := Lib.hid j
      have hlti : ¬ (l.length : Int) < l.length := by omega
      clear hk hlt j PP
      go_wp2_with fail
      refine (PUTP.out _ _ _ _ _ J.out).mono ?_
      rintro e w3 ⟨rfl, j3⟩
      have J3 := Lib.hid j3
      obtain ⟨d0, d1, d2, d3, d4⟩ := PQ'.out.kp j3.kp (by have := HSZ'.out; omega)
      clear c0 c1 c2 c3 c4 j3 J PQ' PUTP
      go_wp2_with fail
      refine (PUTQ.out _ _ _ _ _ J3.out).mono ?_
      rintro e w4 ⟨rfl, j4⟩
      have FIN : Hid (EncPost w (encF (dnF l) p q) (.returned (.slice (some ⟨w.heap.size + 2, 0, none⟩) 220 220)) w4) := Lib.hid ⟨_, rfl, (j4.congr EG.out).row, KW.out.trans (A' := fun x => x = w.heap.size + 2) (fun x e => .inr (by omega)) j4.kp⟩
      clear j4 d0 d1 d2 d3 d4 J3 PUTQ
      go_wp2_with fail
      go_ret
      exact FIN.out

end Go.Proofs.YtdgnbbmgcgfibaaGreatDoor

namespace Go.Proofs.YtdgnbbmgcgfibaaGreatDoor
open Go.RowKit

theorem fval_lt (k : Nat) (nx : Bool) (a : Nat → Bool) : fval k nx a < 2 ^ fw k := bval_lt _ _
/-! ### 'get' -/
section
variable {w wr w' : World} {x : Nat → Nat}
end

end Go.Proofs.YtdgnbbmgcgfibaaGreatDoor

namespace Go.Proofs.YtdgnbbmgcgfibaaGreatDoor
open Go.RowKit

/-- The packets whose field k is from lo to hi. -/
def rgF (k : Nat) (nx : Bool) (lo hi : Nat) : Bfn := fun a => decide (lo ≤ fval k nx a ∧ fval k nx a ≤ hi)
theorem rgF_no {k : Nat} {nx : Bool} {lo hi : Nat} (h : hi < lo ∨ 2 ^ fw k ≤ lo) (a : Nat → Bool) : rgF k nx lo hi a = false := by
  have := fval_lt k nx a
  unfold rgF
  rw [decide_eq_false_iff_not]
  omega
theorem rgF_range {k : Nat} {nx : Bool} {lo hi : Nat} (h1 : lo < 2 ^ fw k) (a : Nat → Bool) : rangeF k nx lo (min hi (2 ^ fw k - 1)) a = rgF k nx lo hi a := by
  have hp : 0 < 2 ^ fw k := Nat.pow_pos (by omega)
  have := fval_lt k nx a
  rw [rangeF_eq h1 (by omega)]
  unfold rgF
  rw [decide_eq_decide]
  omega
theorem rgF_st {k : Nat} {nx : Bool} (hk : k < 5) (lo hi : Nat) : PSt 220 (rgF k nx lo hi) 10000 := by
  by_cases h : lo < 2 ^ fw k
  · exact (rangeF_st hk lo (min hi (2 ^ fw k - 1))).congr (fun a => (rgF_range h a).symm)
  · exact ((PSt.const 220 false).congr (fun a => rgF_no (.inr (by omega)) a)).mono (by omega)
theorem rgF_rd {k : Nat} {nx : Bool} (lo hi : Nat) : Rd (fvar k 0 nx) (fend k) (rgF k nx lo hi) := by
  by_cases h : lo < 2 ^ fw k
  · have := rangeF_rd (k := k) (nx := nx) lo (min hi (2 ^ fw k - 1))
    intro a b hab
    rw [← rgF_range h, ← rgF_range h]
    exact this a b hab
  · intro a b _
    rw [rgF_no (.inr (by omega)), rgF_no (.inr (by omega))]

def RngR (w0 : World) (p : Nat) (L0 : Lay) (c : Nat) (B : List (Int × Bfn)) (k : Nat) (nx : Bool) (lo hi : Nat) (gk : Nat) (s13 s14 s15 : Value) (wr : World) : Prop :=
  ∃ j ab be M L, j + gk = fw k ∧ s13 = .int .i64 ab ∧ s14 = .int .i64 be ∧ s15 = .int .i64 ((fw k : Int) - 1 - (j : Int)) ∧ Hf w0 p L0 220 (c + j * 50000) wr M L ((be, beF k nx hi j) :: (ab, abF k nx lo j) :: B)

/-- What a round needs. -/
structure RngP (k : Nat) (nx : Bool) (lo hi j v : Nat) : Prop where
  v220 : v < 220
  and1 : PSt 220 (fun a => a v && abF k nx lo j a) 100
  or1 : PSt 220 (fun a => a v || abF k nx lo j a) 100
  and2 : PSt 220 (fun a => !a v && beF k nx hi j a) 100
  or2 : PSt 220 (fun a => !a v || beF k nx hi j a) 100
  a1 : lo.testBit j = true → ∀ a, (a v && abF k nx lo j a) = abF k nx lo (j + 1) a
  a0 : lo.testBit j = false → ∀ a, (a v || abF k nx lo j a) = abF k nx lo (j + 1) a
  b1 : hi.testBit j = true → ∀ a, (!a v || beF k nx hi j a) = beF k nx hi (j + 1) a
  b0 : hi.testBit j = false → ∀ a, (!a v && beF k nx hi j a) = beF k nx hi (j + 1) a
theorem rngP {k : Nat} {nx : Bool} {lo hi j : Nat} (hk : k < 5) (hj : j < fw k) : RngP k nx lo hi j (fvar k (fw k - 1 - j) nx) := by
  have hw := fw_le k
  have ra := abF_rd (k := k) (nx := nx) lo j (by omega)
  have rb := beF_rd (k := k) (nx := nx) hi j (by omega)
  have sa := abF_st (nx := nx) hk lo j (by omega)
  have sb := beF_st (nx := nx) hk hi j (by omega)
  refine ⟨fvar_lt hk (by omega) nx, ((and_bit hk hj ra sa false).congr (fun a => by rw [Bool.xor_false]; rfl)).mono (by omega), ((or_bit hk hj ra sa false).congr (fun a => by rw [Bool.xor_false]; rfl)).mono (by omega),
    ((and_bit hk hj rb sb true).congr (fun a => by rw [Bool.xor_true]; rfl)).mono (by omega), ((or_bit hk hj rb sb true).congr (fun a => by rw [Bool.xor_true]; rfl)).mono (by omega), ?_, ?_, ?_, ?_⟩
  · intro h a; show _ = aboveB _ _ _; simp only [aboveB, h, if_true]; rfl
  · intro h a; show _ = aboveB _ _ _; simp only [aboveB, h, Bool.false_eq_true, if_false]; rfl
  · intro h a; show _ = belowB _ _ _; simp only [belowB, h, if_true]; rfl
  · intro h a; show _ = belowB _ _ _; simp only [belowB, h, Bool.false_eq_true, if_false]; rfl

set_option maxRecDepth 100000 in
set_option maxHeartbeats 4000000 in
theorem Range_ok {p c : Nat} {M : Mgr} {L : Lay} {B : List (Int × Bfn)} (k : Nat) (hk : k < 5) (nx : Bool) (lo hi : Nat) (hlo : lo < 4294967296) (hhi : hi < 4294967296) {w : World} (R : Rep w p M L) (q : Qk 220 c M B) (g : Gl w) (ho : ¬ L.at p 0) (hc : c ≤ 500000000000) :
    Calls Tryz.prog 31 #[ptr p, .int .i64 (k : Int), .bool nx, .int .u32 (lo : Int), .int .u32 (hi : Int)] w (OpQ p 220 (c + 10000000) L w (rgF k nx lo hi) B) := by
  have H0 := Lib.hid (Hf.start R q g ho)
  have W := Lib.hid (fun (x : World) (h : Gl x) => Width_in k hk h)
  have hw32 := fw_le k
  have hw8 := fw_pos hk
  have hpow : 2 ^ fw k ≤ 2 ^ 32 := Nat.pow_le_pow_right (by omega) hw32
  have hpow1 : 0 < 2 ^ fw k := Nat.pow_pos (by omega)
  have hne : ((fw k : Int) == 0) = false := by simp; omega
  have hw0 : (0 : Int) ≤ (fw k : Int) := by omega
  have hmost : ((2 : Int) ^ fw k % 4294967296 - 1) % 4294967296 = ((2 ^ fw k - 1 : Nat) : Int) := by
    have e : ((2 : Int) ^ fw k) = ((2 ^ fw k : Nat) : Int) := by simp
    rw [e]
    have : 2 ^ fw k ≤ 4294967296 := hpow
    generalize 2 ^ fw k = z at *
    omega
  clear R q g ho
  by_cases hbad : hi < lo ∨ 2 ^ fw k ≤ lo
  · have FIN : Hid (OpQ p 220 (c + 10000000) L w (rgF k nx lo hi) B (.returned (.int .i64 0)) w) := Lib.hid (by
      refine Hf.ret (r := 0) (H0.out.consts.cong (G := rgF k nx lo hi) (fun a => (rgF_no hbad a).symm)) (.head _) (fun x hx => .tail _ (.tail _ hx)) (by omega))
    by_cases h1 : hi < lo
    · have h1i : (hi : Int) < (lo : Int) := by omega
      go_enter Tryz.func31, Tryz.ntmps31
      go_wp2_with fail
      refine (W.out _ H0.out.gl).mono ?_
      rintro e w' ⟨rfl, rfl⟩
      go_wp2_with fail
      go_ret
      exact FIN.out
    · have h1i : ¬ (hi : Int) < (lo : Int) := by omega
      have h2i : ((2 ^ fw k - 1 : Nat) : Int) < (lo : Int) := by omega
      generalize 2 ^ fw k - 1 = mo at *
      go_enter Tryz.func31, Tryz.ntmps31
      go_wp2_with fail
      refine (W.out _ H0.out.gl).mono ?_
      rintro e w' ⟨rfl, rfl⟩
      go_wp2_with fail
      go_ret
      exact FIN.out
  · have h1i : ¬ (hi : Int) < (lo : Int) := by omega
    have h2i : ¬ ((2 ^ fw k - 1 : Nat) : Int) < (lo : Int) := by omega
    have hmin : min (hi : Int) ((2 ^ fw k - 1 : Nat) : Int) = ((min hi (2 ^ fw k - 1) : Nat) : Int) := by omega
    have hh32 : min hi (2 ^ fw k - 1) < 4294967296 := by omega
    have EQ := Lib.hid (fun a => rgF_range (k := k) (nx := nx) (lo := lo) (hi := hi) (by omega) a)
    have RP := Lib.hid (fun (j : Nat) (hj : j < fw k) => rngP (k := k) (nx := nx) (lo := lo) (hi := min hi (2 ^ fw k - 1)) hk hj)
    have V := Lib.hid (fun (x : World) (h : Gl x) (b : Nat) (hb : b < fw k) => HVar_in k b nx hk hb h)
    have ST := Lib.hid (rangeF_st (nx := nx) hk lo (min hi (2 ^ fw k - 1)))
    have hcm : (2 ^ fw k - 1 < hi ∧ min hi (2 ^ fw k - 1) = 2 ^ fw k - 1) ∨ (¬ 2 ^ fw k - 1 < hi ∧ min hi (2 ^ fw k - 1) = hi) := by omega
    generalize min hi (2 ^ fw k - 1) = hm at *
    generalize 2 ^ fw k - 1 = mo at *
    have J0 : Hid (RngR w p L c B k nx lo hm (fw k) (.int .i64 1) (.int .i64 1) (.int .i64 ((fw k : Int) - 1)) w) := Lib.hid (by
      refine ⟨0, 1, 1, M, L, by omega, rfl, rfl, by simp, ?_⟩
      have h := H0.out.consts
      rw [Nat.zero_mul, Nat.add_zero]
      exact h.sub (fun x hx => by
        rcases List.mem_cons.1 hx with rfl | hx
        · exact .tail _ (.head _)
        · rcases List.mem_cons.1 hx with rfl | hx
          · exact .tail _ (.head _)
          · exact .tail _ (.tail _ hx)))
    have hd1 : decide (hi < lo) = false := decide_eq_false (by omega)
    have hd2 : decide (mo < lo) = false := decide_eq_false (by omega)
    clear hmin
    rcases hcm with ⟨hx, rfl⟩ | ⟨hx, rfl⟩
    · have hmost' : ((2 : Int) ^ fw k % 4294967296 - 1) = (hm : Int) := by
        generalize (2 : Int) ^ fw k = z at *
        omega
      go_enter Tryz.func31, Tryz.ntmps31
      go_wp2_with fail
      refine (W.out _ H0.out.gl).mono ?_
      rintro e w' ⟨rfl, rfl⟩
      clear W H0
      go_wp2_with fail
      go_loopg [13, 14, 15] (fw k) (fun gk s13 s14 s15 wr => RngR w p L c B k nx lo hm gk s13 s14 s15 wr)
      case atStart => exact J0.out
      case round =>
        clear J0
        obtain ⟨j, ab, be, M1, L1, hj, rfl, rfl, rfl, h⟩ := hrel
        have HJ := Lib.hid hj
        by_cases hlt : j < fw k
        · obtain ⟨b, hb⟩ : ∃ b : Nat, b = fw k - 1 - j := ⟨_, rfl⟩
          have hbi : (fw k : Int) - 1 - (j : Int) = (b : Int) := by omega
          have rp := RP.out j hlt
          rw [← hb] at rp
          have VB := Lib.hid (V.out wr h.gl b (by omega))
          have hkk : fw k - 1 - b = j := by omega
          have l1 : (bits BinOp.and IntKind.u32 ((lo : Int) / 2 ^ (fw k - 1 - b)) 1 == 1) = lo.testBit j := by rw [hkk]; exact bit_u32 hlo
          have l2 : (bits BinOp.and IntKind.u32 ((hm : Int) / 2 ^ (fw k - 1 - b)) 1 == 1) = hm.testBit j := by rw [hkk]; exact bit_u32 hh32
          have hb0 : (0 : Int) ≤ (b : Int) := by omega
          have hbw : (b : Int) + 1 ≤ (fw k : Int) := by omega
          rw [hbi]
          have RPH := Lib.hid rp
          have H1 := Lib.hid h
          have hv := rp.v220
          have HKK := Lib.hid hkk
          have HBI := Lib.hid hbi
          clear hb hbi h rp hj hkk
          generalize fvar k b nx = v at *
          have hcc : c + j * 50000 + 50000 ≤ 500002000000 := by have := hlt; omega
          cases hlb : lo.testBit j <;> cases hhb : hm.testBit j
          · rw [hlb] at l1
            rw [hhb] at l2
            go_wp2_with fail
            refine VB.out.mono ?_
            rintro e w' ⟨rfl, rfl⟩
            go_wp2_with fail
            refine (VarQ H1.out.rep H1.out.qk hv (by omega)).mono ?_
            intro e w2 h2
            obtain ⟨x, M2, L2, rfl, hx0, f2⟩ := H1.out.step h2
            have H2 := Lib.hid f2
            clear h2 f2 H1 VB
            go_wp2_with fail
            refine (OrQ H2.out.rep H2.out.qk (f := x) (g := ab) (F := fun a => a v) (G := abF k nx lo j) (.head _) (.tail _ (.tail _ (.head _))) (s := 100) RPH.out.or1 (by omega)).mono ?_
            intro e w3 h3
            obtain ⟨ab2, M3, L3, rfl, hx3, f3⟩ := H2.out.step h3
            have H3 := Lib.hid (f3.cong (G := abF k nx lo (j + 1)) (RPH.out.a0 hlb))
            clear h3 f3 H2
            go_wp2_with fail
            refine (NotQ H3.out.rep H3.out.qk (f := x) (F := fun a => a v) (.tail _ (.head _)) (s := 2) (PSt.var 220 v hv) (by omega)).mono ?_
            intro e w4 h4
            obtain ⟨y, M4, L4, rfl, hx4, f4⟩ := H3.out.step h4
            have H4 := Lib.hid f4
            clear h4 f4 H3
            go_wp2_with fail
            refine (AndQ H4.out.rep H4.out.qk (f := y) (g := be) (F := fun a => !a v) (G := beF k nx hm j) (.head _) (.tail _ (.tail _ (.tail _ (.head _)))) (s := 100) RPH.out.and2 (by omega)).mono ?_
            intro e w5 h5
            obtain ⟨be2, M5, L5, rfl, hx5, f5⟩ := H4.out.step h5
            have JN : Hid (RngR w p L c B k nx lo hm (fw k - (j + 1)) (.int .i64 ab2) (.int .i64 be2) (.int .i64 ((b : Int) - 1)) w5) := Lib.hid (by
              refine ⟨j + 1, ab2, be2, M5, L5, by omega, rfl, rfl, ?_, ?_⟩
              · have := HBI.out
                rw [show (fw k : Int) - 1 - ((j + 1 : Nat) : Int) = (b : Int) - 1 by omega]
              · refine ((f5.cong (G := beF k nx hm (j + 1)) (RPH.out.b0 hhb)).mono (c' := c + (j + 1) * 50000) (by omega)).sub (fun z hz => ?_)
                rcases List.mem_cons.1 hz with rfl | hz
                · exact .head _
                · rcases List.mem_cons.1 hz with rfl | hz
                  · exact .tail _ (.tail _ (.head _))
                  · exact .tail _ (.tail _ (.tail _ (.tail _ (.tail _ (.tail _ hz))))))
            clear h5 f5 H4
            go_wp2_with fail
            go_roundg (fw k - (j + 1))
            case measure => have := HJ.out; omega
            case rel => exact JN.out
          · rw [hlb] at l1
            rw [hhb] at l2
            go_wp2_with fail
            refine VB.out.mono ?_
            rintro e w' ⟨rfl, rfl⟩
            go_wp2_with fail
            refine (VarQ H1.out.rep H1.out.qk hv (by omega)).mono ?_
            intro e w2 h2
            obtain ⟨x, M2, L2, rfl, hx0, f2⟩ := H1.out.step h2
            have H2 := Lib.hid f2
            clear h2 f2 H1 VB
            go_wp2_with fail
            refine (OrQ H2.out.rep H2.out.qk (f := x) (g := ab) (F := fun a => a v) (G := abF k nx lo j) (.head _) (.tail _ (.tail _ (.head _))) (s := 100) RPH.out.or1 (by omega)).mono ?_
            intro e w3 h3
            obtain ⟨ab2, M3, L3, rfl, hx3, f3⟩ := H2.out.step h3
            have H3 := Lib.hid (f3.cong (G := abF k nx lo (j + 1)) (RPH.out.a0 hlb))
            clear h3 f3 H2
            go_wp2_with fail
            refine (NotQ H3.out.rep H3.out.qk (f := x) (F := fun a => a v) (.tail _ (.head _)) (s := 2) (PSt.var 220 v hv) (by omega)).mono ?_
            intro e w4 h4
            obtain ⟨y, M4, L4, rfl, hx4, f4⟩ := H3.out.step h4
            have H4 := Lib.hid f4
            clear h4 f4 H3
            go_wp2_with fail
            refine (OrQ H4.out.rep H4.out.qk (f := y) (g := be) (F := fun a => !a v) (G := beF k nx hm j) (.head _) (.tail _ (.tail _ (.tail _ (.head _)))) (s := 100) RPH.out.or2 (by omega)).mono ?_
            intro e w5 h5
            obtain ⟨be2, M5, L5, rfl, hx5, f5⟩ := H4.out.step h5
            have JN : Hid (RngR w p L c B k nx lo hm (fw k - (j + 1)) (.int .i64 ab2) (.int .i64 be2) (.int .i64 ((b : Int) - 1)) w5) := Lib.hid (by
              refine ⟨j + 1, ab2, be2, M5, L5, by omega, rfl, rfl, ?_, ?_⟩
              · have := HBI.out
                rw [show (fw k : Int) - 1 - ((j + 1 : Nat) : Int) = (b : Int) - 1 by omega]
              · refine ((f5.cong (G := beF k nx hm (j + 1)) (RPH.out.b1 hhb)).mono (c' := c + (j + 1) * 50000) (by omega)).sub (fun z hz => ?_)
                rcases List.mem_cons.1 hz with rfl | hz
                · exact .head _
                · rcases List.mem_cons.1 hz with rfl | hz
                  · exact .tail _ (.tail _ (.head _))
                  · exact .tail _ (.tail _ (.tail _ (.tail _ (.tail _ (.tail _ hz))))))
            clear h5 f5 H4
            go_wp2_with fail
            go_roundg (fw k - (j + 1))
            case measure => have := HJ.out; omega
            case rel => exact JN.out
          · rw [hlb] at l1
            rw [hhb] at l2
            go_wp2_with fail
            refine VB.out.mono ?_
            rintro e w' ⟨rfl, rfl⟩
            go_wp2_with fail
            refine (VarQ H1.out.rep H1.out.qk hv (by omega)).mono ?_
            intro e w2 h2
            obtain ⟨x, M2, L2, rfl, hx0, f2⟩ := H1.out.step h2
            have H2 := Lib.hid f2
            clear h2 f2 H1 VB
            go_wp2_with fail
            refine (AndQ H2.out.rep H2.out.qk (f := x) (g := ab) (F := fun a => a v) (G := abF k nx lo j) (.head _) (.tail _ (.tail _ (.head _))) (s := 100) RPH.out.and1 (by omega)).mono ?_
            intro e w3 h3
            obtain ⟨ab2, M3, L3, rfl, hx3, f3⟩ := H2.out.step h3
            have H3 := Lib.hid (f3.cong (G := abF k nx lo (j + 1)) (RPH.out.a1 hlb))
            clear h3 f3 H2
            go_wp2_with fail
            refine (NotQ H3.out.rep H3.out.qk (f := x) (F := fun a => a v) (.tail _ (.head _)) (s := 2) (PSt.var 220 v hv) (by omega)).mono ?_
            intro e w4 h4
            obtain ⟨y, M4, L4, rfl, hx4, f4⟩ := H3.out.step h4
            have H4 := Lib.hid f4
            clear h4 f4 H3
            go_wp2_with fail
            refine (AndQ H4.out.rep H4.out.qk (f := y) (g := be) (F := fun a => !a v) (G := beF k nx hm j) (.head _) (.tail _ (.tail _ (.tail _ (.head _)))) (s := 100) RPH.out.and2 (by omega)).mono ?_
            intro e w5 h5
            obtain ⟨be2, M5, L5, rfl, hx5, f5⟩ := H4.out.step h5
            have JN : Hid (RngR w p L c B k nx lo hm (fw k - (j + 1)) (.int .i64 ab2) (.int .i64 be2) (.int .i64 ((b : Int) - 1)) w5) := Lib.hid (by
              refine ⟨j + 1, ab2, be2, M5, L5, by omega, rfl, rfl, ?_, ?_⟩
              · have := HBI.out
                rw [show (fw k : Int) - 1 - ((j + 1 : Nat) : Int) = (b : Int) - 1 by omega]
              · refine ((f5.cong (G := beF k nx hm (j + 1)) (RPH.out.b0 hhb)).mono (c' := c + (j + 1) * 50000) (by omega)).sub (fun z hz => ?_)
                rcases List.mem_cons.1 hz with rfl | hz
                · exact .head _
                · rcases List.mem_cons.1 hz with rfl | hz
                  · exact .tail _ (.tail _ (.head _))
                  · exact .tail _ (.tail _ (.tail _ (.tail _ (.tail _ (.tail _ hz))))))
            clear h5 f5 H4
            go_wp2_with fail
            go_roundg (fw k - (j + 1))
            case measure => have := HJ.out; omega
            case rel => exact JN.out
          · rw [hlb] at l1
            rw [hhb] at l2
            go_wp2_with fail
            refine VB.out.mono ?_
            rintro e w' ⟨rfl, rfl⟩
            go_wp2_with fail
            refine (VarQ H1.out.rep H1.out.qk hv (by omega)).mono ?_
            intro e w2 h2
            obtain ⟨x, M2, L2, rfl, hx0, f2⟩ := H1.out.step h2
            have H2 := Lib.hid f2
            clear h2 f2 H1 VB
            go_wp2_with fail
            refine (AndQ H2.out.rep H2.out.qk (f := x) (g := ab) (F := fun a => a v) (G := abF k nx lo j) (.head _) (.tail _ (.tail _ (.head _))) (s := 100) RPH.out.and1 (by omega)).mono ?_
            intro e w3 h3
            obtain ⟨ab2, M3, L3, rfl, hx3, f3⟩ := H2.out.step h3
            have H3 := Lib.hid (f3.cong (G := abF k nx lo (j + 1)) (RPH.out.a1 hlb))
            clear h3 f3 H2
            go_wp2_with fail
            refine (NotQ H3.out.rep H3.out.qk (f := x) (F := fun a => a v) (.tail _ (.head _)) (s := 2) (PSt.var 220 v hv) (by omega)).mono ?_
            intro e w4 h4
            obtain ⟨y, M4, L4, rfl, hx4, f4⟩ := H3.out.step h4
            have H4 := Lib.hid f4
            clear h4 f4 H3
            go_wp2_with fail
            refine (OrQ H4.out.rep H4.out.qk (f := y) (g := be) (F := fun a => !a v) (G := beF k nx hm j) (.head _) (.tail _ (.tail _ (.tail _ (.head _)))) (s := 100) RPH.out.or2 (by omega)).mono ?_
            intro e w5 h5
            obtain ⟨be2, M5, L5, rfl, hx5, f5⟩ := H4.out.step h5
            have JN : Hid (RngR w p L c B k nx lo hm (fw k - (j + 1)) (.int .i64 ab2) (.int .i64 be2) (.int .i64 ((b : Int) - 1)) w5) := Lib.hid (by
              refine ⟨j + 1, ab2, be2, M5, L5, by omega, rfl, rfl, ?_, ?_⟩
              · have := HBI.out
                rw [show (fw k : Int) - 1 - ((j + 1 : Nat) : Int) = (b : Int) - 1 by omega]
              · refine ((f5.cong (G := beF k nx hm (j + 1)) (RPH.out.b1 hhb)).mono (c' := c + (j + 1) * 50000) (by omega)).sub (fun z hz => ?_)
                rcases List.mem_cons.1 hz with rfl | hz
                · exact .head _
                · rcases List.mem_cons.1 hz with rfl | hz
                  · exact .tail _ (.tail _ (.head _))
                  · exact .tail _ (.tail _ (.tail _ (.tail _ (.tail _ (.tail _ hz))))))
            clear h5 f5 H4
            go_wp2_with fail
            go_roundg (fw k - (j + 1))
            case measure => have := HJ.out; omega
            case rel => exact JN.out
        · obtain rfl : j = fw k := by omega
          have hbi : (fw k : Int) - 1 - (fw k : Int) = -1 := by omega
          rw [hbi]
          have H1 := Lib.hid h
          clear h hj hbi hlt
          go_wp2_with fail
          refine (AndQ H1.out.rep H1.out.qk (f := ab) (g := be) (F := abF k nx lo (fw k)) (G := beF k nx hm (fw k)) (.tail _ (.head _)) (.head _) (s := 10000) ST.out (by omega)).mono ?_
          intro e w9 h9
          obtain ⟨r9, M9, L9, rfl, hr9, f9⟩ := H1.out.step h9
          have FIN : Hid (OpQ p 220 (c + 10000000) L w (rgF k nx lo _) B (.returned (.int .i64 r9)) w9) := Lib.hid
            ((f9.cong EQ.out).ret (.head _) (fun x hx => .tail _ (.tail _ (.tail _ hx))) (by omega))
          clear h9 f9
          go_wp2_with fail
          go_ret
          exact FIN.out
    · have hx2 : hm ≤ mo := by omega
      go_enter Tryz.func31, Tryz.ntmps31
      go_wp2_with fail
      refine (W.out _ H0.out.gl).mono ?_
      rintro e w' ⟨rfl, rfl⟩
      clear W H0
      go_wp2_with fail
      rw [hmost]
      clear hmost
      go_loopg [13, 14, 15] (fw k) (fun gk s13 s14 s15 wr => RngR w p L c B k nx lo hm gk s13 s14 s15 wr)
      case atStart => exact J0.out
      case round =>
        clear J0
        obtain ⟨j, ab, be, M1, L1, hj, rfl, rfl, rfl, h⟩ := hrel
        have HJ := Lib.hid hj
        by_cases hlt : j < fw k
        · obtain ⟨b, hb⟩ : ∃ b : Nat, b = fw k - 1 - j := ⟨_, rfl⟩
          have hbi : (fw k : Int) - 1 - (j : Int) = (b : Int) := by omega
          have rp := RP.out j hlt
          rw [← hb] at rp
          have VB := Lib.hid (V.out wr h.gl b (by omega))
          have hkk : fw k - 1 - b = j := by omega
          have l1 : (bits BinOp.and IntKind.u32 ((lo : Int) / 2 ^ (fw k - 1 - b)) 1 == 1) = lo.testBit j := by rw [hkk]; exact bit_u32 hlo
          have l2 : (bits BinOp.and IntKind.u32 ((hm : Int) / 2 ^ (fw k - 1 - b)) 1 == 1) = hm.testBit j := by rw [hkk]; exact bit_u32 hh32
          have hb0 : (0 : Int) ≤ (b : Int) := by omega
          have hbw : (b : Int) + 1 ≤ (fw k : Int) := by omega
          rw [hbi]
          have RPH := Lib.hid rp
          have H1 := Lib.hid h
          have hv := rp.v220
          have HKK := Lib.hid hkk
          have HBI := Lib.hid hbi
          clear hb hbi h rp hj hkk
          generalize fvar k b nx = v at *
          have hcc : c + j * 50000 + 50000 ≤ 500002000000 := by have := hlt; omega
          cases hlb : lo.testBit j <;> cases hhb : hm.testBit j
          · rw [hlb] at l1
            rw [hhb] at l2
            go_wp2_with fail
            refine VB.out.mono ?_
            rintro e w' ⟨rfl, rfl⟩
            go_wp2_with fail
            refine (VarQ H1.out.rep H1.out.qk hv (by omega)).mono ?_
            intro e w2 h2
            obtain ⟨x, M2, L2, rfl, hx0, f2⟩ := H1.out.step h2
            have H2 := Lib.hid f2
            clear h2 f2 H1 VB
            go_wp2_with fail
            refine (OrQ H2.out.rep H2.out.qk (f := x) (g := ab) (F := fun a => a v) (G := abF k nx lo j) (.head _) (.tail _ (.tail _ (.head _))) (s := 100) RPH.out.or1 (by omega)).mono ?_
            intro e w3 h3
            obtain ⟨ab2, M3, L3, rfl, hx3, f3⟩ := H2.out.step h3
            have H3 := Lib.hid (f3.cong (G := abF k nx lo (j + 1)) (RPH.out.a0 hlb))
            clear h3 f3 H2
            go_wp2_with fail
            refine (NotQ H3.out.rep H3.out.qk (f := x) (F := fun a => a v) (.tail _ (.head _)) (s := 2) (PSt.var 220 v hv) (by omega)).mono ?_
            intro e w4 h4
            obtain ⟨y, M4, L4, rfl, hx4, f4⟩ := H3.out.step h4
            have H4 := Lib.hid f4
            clear h4 f4 H3
            go_wp2_with fail
            refine (AndQ H4.out.rep H4.out.qk (f := y) (g := be) (F := fun a => !a v) (G := beF k nx hm j) (.head _) (.tail _ (.tail _ (.tail _ (.head _)))) (s := 100) RPH.out.and2 (by omega)).mono ?_
            intro e w5 h5
            obtain ⟨be2, M5, L5, rfl, hx5, f5⟩ := H4.out.step h5
            have JN : Hid (RngR w p L c B k nx lo hm (fw k - (j + 1)) (.int .i64 ab2) (.int .i64 be2) (.int .i64 ((b : Int) - 1)) w5) := Lib.hid (by
              refine ⟨j + 1, ab2, be2, M5, L5, by omega, rfl, rfl, ?_, ?_⟩
              · have := HBI.out
                rw [show (fw k : Int) - 1 - ((j + 1 : Nat) : Int) = (b : Int) - 1 by omega]
              · refine ((f5.cong (G := beF k nx hm (j + 1)) (RPH.out.b0 hhb)).mono (c' := c + (j + 1) * 50000) (by omega)).sub (fun z hz => ?_)
                rcases List.mem_cons.1 hz with rfl | hz
                · exact .head _
                · rcases List.mem_cons.1 hz with rfl | hz
                  · exact .tail _ (.tail _ (.head _))
                  · exact .tail _ (.tail _ (.tail _ (.tail _ (.tail _ (.tail _ hz))))))
            clear h5 f5 H4
            go_wp2_with fail
            go_roundg (fw k - (j + 1))
            case measure => have := HJ.out; omega
            case rel => exact JN.out
          · rw [hlb] at l1
            rw [hhb] at l2
            go_wp2_with fail
            refine VB.out.mono ?_
            rintro e w' ⟨rfl, rfl⟩
            go_wp2_with fail
            refine (VarQ H1.out.rep H1.out.qk hv (by omega)).mono ?_
            intro e w2 h2
            obtain ⟨x, M2, L2, rfl, hx0, f2⟩ := H1.out.step h2
            have H2 := Lib.hid f2
            clear h2 f2 H1 VB
            go_wp2_with fail
            refine (OrQ H2.out.rep H2.out.qk (f := x) (g := ab) (F := fun a => a v) (G := abF k nx lo j) (.head _) (.tail _ (.tail _ (.head _))) (s := 100) RPH.out.or1 (by omega)).mono ?_
            intro e w3 h3
            obtain ⟨ab2, M3, L3, rfl, hx3, f3⟩ := H2.out.step h3
            have H3 := Lib.hid (f3.cong (G := abF k nx lo (j + 1)) (RPH.out.a0 hlb))
            clear h3 f3 H2
            go_wp2_with fail
            refine (NotQ H3.out.rep H3.out.qk (f := x) (F := fun a => a v) (.tail _ (.head _)) (s := 2) (PSt.var 220 v hv) (by omega)).mono ?_
            intro e w4 h4
            obtain ⟨y, M4, L4, rfl, hx4, f4⟩ := H3.out.step h4
            have H4 := Lib.hid f4
            clear h4 f4 H3
            go_wp2_with fail
            refine (OrQ H4.out.rep H4.out.qk (f := y) (g := be) (F := fun a => !a v) (G := beF k nx hm j) (.head _) (.tail _ (.tail _ (.tail _ (.head _)))) (s := 100) RPH.out.or2 (by omega)).mono ?_
            intro e w5 h5
            obtain ⟨be2, M5, L5, rfl, hx5, f5⟩ := H4.out.step h5
            have JN : Hid (RngR w p L c B k nx lo hm (fw k - (j + 1)) (.int .i64 ab2) (.int .i64 be2) (.int .i64 ((b : Int) - 1)) w5) := Lib.hid (by
              refine ⟨j + 1, ab2, be2, M5, L5, by omega, rfl, rfl, ?_, ?_⟩
              · have := HBI.out
                rw [show (fw k : Int) - 1 - ((j + 1 : Nat) : Int) = (b : Int) - 1 by omega]
              · refine ((f5.cong (G := beF k nx hm (j + 1)) (RPH.out.b1 hhb)).mono (c' := c + (j + 1) * 50000) (by omega)).sub (fun z hz => ?_)
                rcases List.mem_cons.1 hz with rfl | hz
                · exact .head _
                · rcases List.mem_cons.1 hz with rfl | hz
                  · exact .tail _ (.tail _ (.head _))
                  · exact .tail _ (.tail _ (.tail _ (.tail _ (.tail _ (.tail _ hz))))))
            clear h5 f5 H4
            go_wp2_with fail
            go_roundg (fw k - (j + 1))
            case measure => have := HJ.out; omega
            case rel => exact JN.out
          · rw [hlb] at l1
            rw [hhb] at l2
            go_wp2_with fail
            refine VB.out.mono ?_
            rintro e w' ⟨rfl, rfl⟩
            go_wp2_with fail
            refine (VarQ H1.out.rep H1.out.qk hv (by omega)).mono ?_
            intro e w2 h2
            obtain ⟨x, M2, L2, rfl, hx0, f2⟩ := H1.out.step h2
            have H2 := Lib.hid f2
            clear h2 f2 H1 VB
            go_wp2_with fail
            refine (AndQ H2.out.rep H2.out.qk (f := x) (g := ab) (F := fun a => a v) (G := abF k nx lo j) (.head _) (.tail _ (.tail _ (.head _))) (s := 100) RPH.out.and1 (by omega)).mono ?_
            intro e w3 h3
            obtain ⟨ab2, M3, L3, rfl, hx3, f3⟩ := H2.out.step h3
            have H3 := Lib.hid (f3.cong (G := abF k nx lo (j + 1)) (RPH.out.a1 hlb))
            clear h3 f3 H2
            go_wp2_with fail
            refine (NotQ H3.out.rep H3.out.qk (f := x) (F := fun a => a v) (.tail _ (.head _)) (s := 2) (PSt.var 220 v hv) (by omega)).mono ?_
            intro e w4 h4
            obtain ⟨y, M4, L4, rfl, hx4, f4⟩ := H3.out.step h4
            have H4 := Lib.hid f4
            clear h4 f4 H3
            go_wp2_with fail
            refine (AndQ H4.out.rep H4.out.qk (f := y) (g := be) (F := fun a => !a v) (G := beF k nx hm j) (.head _) (.tail _ (.tail _ (.tail _ (.head _)))) (s := 100) RPH.out.and2 (by omega)).mono ?_
            intro e w5 h5
            obtain ⟨be2, M5, L5, rfl, hx5, f5⟩ := H4.out.step h5
            have JN : Hid (RngR w p L c B k nx lo hm (fw k - (j + 1)) (.int .i64 ab2) (.int .i64 be2) (.int .i64 ((b : Int) - 1)) w5) := Lib.hid (by
              refine ⟨j + 1, ab2, be2, M5, L5, by omega, rfl, rfl, ?_, ?_⟩
              · have := HBI.out
                rw [show (fw k : Int) - 1 - ((j + 1 : Nat) : Int) = (b : Int) - 1 by omega]
              · refine ((f5.cong (G := beF k nx hm (j + 1)) (RPH.out.b0 hhb)).mono (c' := c + (j + 1) * 50000) (by omega)).sub (fun z hz => ?_)
                rcases List.mem_cons.1 hz with rfl | hz
                · exact .head _
                · rcases List.mem_cons.1 hz with rfl | hz
                  · exact .tail _ (.tail _ (.head _))
                  · exact .tail _ (.tail _ (.tail _ (.tail _ (.tail _ (.tail _ hz))))))
            clear h5 f5 H4
            go_wp2_with fail
            go_roundg (fw k - (j + 1))
            case measure => have := HJ.out; omega
            case rel => exact JN.out
          · rw [hlb] at l1
            rw [hhb] at l2
            go_wp2_with fail
            refine VB.out.mono ?_
            rintro e w' ⟨rfl, rfl⟩
            go_wp2_with fail
            refine (VarQ H1.out.rep H1.out.qk hv (by omega)).mono ?_
            intro e w2 h2
            obtain ⟨x, M2, L2, rfl, hx0, f2⟩ := H1.out.step h2
            have H2 := Lib.hid f2
            clear h2 f2 H1 VB
            go_wp2_with fail
            refine (AndQ H2.out.rep H2.out.qk (f := x) (g := ab) (F := fun a => a v) (G := abF k nx lo j) (.head _) (.tail _ (.tail _ (.head _))) (s := 100) RPH.out.and1 (by omega)).mono ?_
            intro e w3 h3
            obtain ⟨ab2, M3, L3, rfl, hx3, f3⟩ := H2.out.step h3
            have H3 := Lib.hid (f3.cong (G := abF k nx lo (j + 1)) (RPH.out.a1 hlb))
            clear h3 f3 H2
            go_wp2_with fail
            refine (NotQ H3.out.rep H3.out.qk (f := x) (F := fun a => a v) (.tail _ (.head _)) (s := 2) (PSt.var 220 v hv) (by omega)).mono ?_
            intro e w4 h4
            obtain ⟨y, M4, L4, rfl, hx4, f4⟩ := H3.out.step h4
            have H4 := Lib.hid f4
            clear h4 f4 H3
            go_wp2_with fail
            refine (OrQ H4.out.rep H4.out.qk (f := y) (g := be) (F := fun a => !a v) (G := beF k nx hm j) (.head _) (.tail _ (.tail _ (.tail _ (.head _)))) (s := 100) RPH.out.or2 (by omega)).mono ?_
            intro e w5 h5
            obtain ⟨be2, M5, L5, rfl, hx5, f5⟩ := H4.out.step h5
            have JN : Hid (RngR w p L c B k nx lo hm (fw k - (j + 1)) (.int .i64 ab2) (.int .i64 be2) (.int .i64 ((b : Int) - 1)) w5) := Lib.hid (by
              refine ⟨j + 1, ab2, be2, M5, L5, by omega, rfl, rfl, ?_, ?_⟩
              · have := HBI.out
                rw [show (fw k : Int) - 1 - ((j + 1 : Nat) : Int) = (b : Int) - 1 by omega]
              · refine ((f5.cong (G := beF k nx hm (j + 1)) (RPH.out.b1 hhb)).mono (c' := c + (j + 1) * 50000) (by omega)).sub (fun z hz => ?_)
                rcases List.mem_cons.1 hz with rfl | hz
                · exact .head _
                · rcases List.mem_cons.1 hz with rfl | hz
                  · exact .tail _ (.tail _ (.head _))
                  · exact .tail _ (.tail _ (.tail _ (.tail _ (.tail _ (.tail _ hz))))))
            clear h5 f5 H4
            go_wp2_with fail
            go_roundg (fw k - (j + 1))
            case measure => have := HJ.out; omega
            case rel => exact JN.out
        · obtain rfl : j = fw k := by omega
          have hbi : (fw k : Int) - 1 - (fw k : Int) = -1 := by omega
          rw [hbi]
          have H1 := Lib.hid h
          clear h hj hbi hlt
          go_wp2_with fail
          refine (AndQ H1.out.rep H1.out.qk (f := ab) (g := be) (F := abF k nx lo (fw k)) (G := beF k nx hm (fw k)) (.tail _ (.head _)) (.head _) (s := 10000) ST.out (by omega)).mono ?_
          intro e w9 h9
          obtain ⟨r9, M9, L9, rfl, hr9, f9⟩ := H1.out.step h9
          have FIN : Hid (OpQ p 220 (c + 10000000) L w (rgF k nx lo _) B (.returned (.int .i64 r9)) w9) := Lib.hid
            ((f9.cong EQ.out).ret (.head _) (fun x hx => .tail _ (.tail _ (.tail _ hx))) (by omega))
          clear h9 f9
          go_wp2_with fail
          go_ret
          exact FIN.out

end Go.Proofs.YtdgnbbmgcgfibaaGreatDoor

namespace Go.Proofs.YtdgnbbmgcgfibaaGreatDoor
open Go.RowKit

set_option maxRecDepth 100000 in
theorem HNew_ok (w : World) : Calls Tryz.prog 8 #[] w (NewPost' w 220) := by
  have N := Lib.hid (New_ok 220 w)
  rw [show nvars 220 = 220 from rfl] at N
  go_enter Tryz.func8, Tryz.ntmps8
  go_wp2_with fail
  refine N.out.mono ?_
  rintro e w1 ⟨p, L, rfl, R, k, o⟩
  have F : Hid (NewPost' w 220 (.returned (ptr p)) w1) := Lib.hid ⟨p, L, rfl, R, k, o⟩
  clear R k o N
  go_wp2_with fail
  go_ret
  exact F.out

/-- The state behind 'New' of a law that began at w. -/
theorem hf_new {w w0 w1 : World} {p : Nat} {L : Lay} (g : Gl w) (k0 : Kp No w w0) (R : Rep w1 p (Mgr.new 220) L) (k : Kp No w0 w1) (o : ∀ x, L.at p x → w0.heap.size ≤ x) : Hf w1 p L 220 2 w1 (Mgr.new 220) L [] :=
  Hf.start R (Qk.new 220) ((g.no k0).no k) (fun h => by have := o _ h; have := g.lt; have := k0.size; omega)
theorem Hf.kpNo {w w1 wr : World} {p n c : Nat} {L1 L : Lay} {M : Mgr} {B : List (Int × Bfn)} (h : Hf w1 p L1 n c wr M L B) (k1 : Kp No w w1) (o : ∀ x, L1.at p x → w.heap.size ≤ x) : Kp No w wr :=
  k1.trans (A' := L1.at p) (fun x hx => .inr (o x hx)) h.sd.kp

def gL (G : Nat → Bool) : List Bool := (List.range 220).map G
theorem boolRow_gL (G : Nat → Bool) : boolRow G = (gL G).map .bool := by unfold boolRow gL; rw [List.map_map]; rfl
theorem gL_len (G : Nat → Bool) : (gL G).length = 220 := by simp [gL]
theorem gL_at (G : Nat → Bool) {v : Nat} (h : v < 220) : asg (gL G) v = G v := by simp [asg, gL, h]
theorem bools_row {w : World} {B : Nat} {v : Value} {G : Nat → Bool} (h : w.ownsRow B 4 1 v 220 (boolRow G)) : Bools w v (gL G) := by
  rw [boolRow_gL] at h
  refine Bools.of_row (base := B) (e := 4) ?_
  rw [gL_len]; exact h
theorem rgF_enc (dn : Nat → Bool) {p q : Pkt} (hp : p.ok) (hq : q.ok) {k : Nat} (hk : k < 5) (nx : Bool) (lo hi : Nat) : rgF k nx lo hi (asg (gL (encF dn p q))) = decide (lo ≤ (if nx then q else p).f k ∧ (if nx then q else p).f k ≤ hi) := by
  unfold rgF
  rw [fval_enc dn hp hq hk nx (fun v hv => gL_at _ hv)]
/-- The state anew, from here on. -/
theorem Hf.rebase {w0 w : World} {p n c : Nat} {L0 L : Lay} {M : Mgr} {B : List (Int × Bfn)} (h : Hf w0 p L0 n c w M L B) : Hf w p L n c w M L B := Hf.start h.rep h.qk h.gl h.off

def pkz : Pkt := ⟨0, 0, 0, 0, 0⟩
theorem pkz_ok : pkz.ok := ⟨by decide, by decide, by decide, by decide, by decide⟩

end Go.Proofs.YtdgnbbmgcgfibaaGreatDoor

namespace Go.Proofs.YtdgnbbmgcgfibaaGreatDoor
open Go.RowKit

def inB (lo hi n : Int) : Bool := decide (lo ≤ n ∧ n ≤ hi)
def vpB (p : Pkt) : Bool := decide (0 ≤ p.proto ∧ p.proto ≤ 255) && inB 0 65535 p.sport && inB 0 65535 p.dport
theorem vpB_true {p : Pkt} (h : p.in32) : vpB p = true → p.ok := fun e => by
  unfold vpB inB at e
  simp only [Bool.and_eq_true, decide_eq_true_eq] at e
  exact ⟨h.h0, h.h1, e.1.1, e.1.2, e.2⟩
end Go.Proofs.YtdgnbbmgcgfibaaGreatDoor

namespace Go.Proofs.YtdgnbbmgcgfibaaGreatDoor
open Go.RowKit

/-- What was done ahead of a call of the manager's changed nothing. -/
theorem OpQ.before {p n c : Nat} {L : Lay} {w wA : World} {F : Bfn} {B : List (Int × Bfn)} {e : Ending} {w' : World} (k : Kp No w wA) (h : OpQ p n c L wA F B e w') : OpQ p n c L w F B e w' := by
  obtain ⟨r, M', ⟨L', he, rr, kk, f⟩, q, h0⟩ := h
  exact ⟨r, M', ⟨L', he, rr, k.no_trans kk, fun x hx => by
    rcases f x hx with h1 | h1
    · exact .inl h1
    · exact .inr (Nat.le_trans k.size h1)⟩, q, h0⟩

theorem bit_zero {k : IntKind} {j : Nat} (hj : j ≤ k.bits) (hj1 : 1 ≤ j) (hk : ∀ n : Int, 0 ≤ n → n < 2 ^ j → k.wrap n = n) {x s : Nat} (hx : x < 2 ^ j) : (bits BinOp.and k ((x : Int) / 2 ^ s) 1 == 0) = !x.testBit s := by
  have h : (x : Int) / 2 ^ s = ((x / 2 ^ s : Nat) : Int) := by simp
  have hlt : x / 2 ^ s < 2 ^ j := Nat.lt_of_le_of_lt (Nat.div_le_self _ _) hx
  have := bits_mask k j hj hk 1 hj1 ((x / 2 ^ s : Nat) : Int) (Int.natCast_nonneg _) (by exact_mod_cast hlt)
  rw [h, show (1 : Int) = 2 ^ 1 - 1 from rfl, this, Nat.testBit_eq_decide_div_mod_eq]
  generalize x / 2 ^ s = y
  rw [Bool.eq_iff_iff]
  simp
  omega
theorem bit_u32_zero {x s : Nat} (hx : x < 4294967296) : (bits BinOp.and IntKind.u32 ((x : Int) / 2 ^ s) 1 == 0) = !x.testBit s :=
  bit_zero (j := 32) (by decide) (by omega) (fun n a b => by rw [IntKind.wrap_u32]; omega) hx

def WldR (w0 : World) (p : Nat) (L0 : Lay) (c : Nat) (B : List (Int × Bfn)) (k : Nat) (nx : Bool) (ad ma : Nat) (gk : Nat) (s9 s10 : Value) (wr : World) : Prop :=
  ∃ j f M L, j + gk = 32 ∧ s9 = .int .i64 f ∧ s10 = .int .i64 (31 - (j : Int)) ∧ Hf w0 p L0 220 (c + j * 50000) wr M L ((f, wiF k nx ad ma j) :: B)

structure WldP (k : Nat) (nx : Bool) (ad ma j v : Nat) : Prop where
  v220 : v < 220
  and1 : PSt 220 (fun a => a v && wiF k nx ad ma j a) 100
  and0 : PSt 220 (fun a => !a v && wiF k nx ad ma j a) 100
  skip : ma.testBit j = true → ∀ a, wiF k nx ad ma j a = wiF k nx ad ma (j + 1) a
  a1 : ma.testBit j = false → ad.testBit j = true → ∀ a, (a v && wiF k nx ad ma j a) = wiF k nx ad ma (j + 1) a
  a0 : ma.testBit j = false → ad.testBit j = false → ∀ a, (!a v && wiF k nx ad ma j a) = wiF k nx ad ma (j + 1) a
theorem wldP {k : Nat} {nx : Bool} {ad ma j : Nat} (hk : k < 5) (hj : j < fw k) : WldP k nx ad ma j (fvar k (fw k - 1 - j) nx) := by
  have hw := fw_le k
  have ra := wiF_rd (k := k) (nx := nx) ad ma j (by omega)
  have sa := wiF_st (nx := nx) hk ad ma j (by omega)
  refine ⟨fvar_lt hk (by omega) nx, ((and_bit hk hj ra sa false).congr (fun a => by rw [Bool.xor_false]; rfl)).mono (by omega), ((and_bit hk hj ra sa true).congr (fun a => by rw [Bool.xor_true]; rfl)).mono (by omega), ?_, ?_, ?_⟩
  · intro h a; show _ = wildB _ _ _ _; simp only [wildB, h, if_true]; rfl
  · intro h h2 a; show _ = wildB _ _ _ _; simp only [wildB, h, h2, Bool.false_eq_true, if_false]
    show (a _ && _) = ((a _ == true) && _); rw [beq_true]; rfl
  · intro h h2 a; show _ = wildB _ _ _ _; simp only [wildB, h, h2, Bool.false_eq_true, if_false]
    show (!a _ && _) = ((a _ == false) && _); rw [beq_false]; rfl

set_option maxRecDepth 100000 in
set_option maxHeartbeats 4000000 in
theorem Wild_ok {p c : Nat} {M : Mgr} {L : Lay} {B : List (Int × Bfn)} (k : Nat) (hk : k < 2) (nx : Bool) (ad ma : Nat) (had : ad < 4294967296) (hma : ma < 4294967296) {w : World} (R : Rep w p M L) (q : Qk 220 c M B) (g : Gl w) (ho : ¬ L.at p 0) (hc : c ≤ 500000000000) :
    Calls Tryz.prog 68 #[ptr p, .int .i64 (k : Int), .bool nx, .agg #[.int .u32 (ad : Int), .int .u32 (ma : Int)]] w (OpQ p 220 (c + 10000000) L w (wiF k nx ad ma 32) B) := by
  have hk5 : k < 5 := by omega
  have hf32 : fw k = 32 := by rcases (show k = 0 ∨ k = 1 by omega) with rfl | rfl <;> rfl
  have hboxL : ¬ L.at p w.heap.size := fun h => by have := R.lt _ h; omega
  have H0 := Lib.hid (Hf.start (R.no (Kp.alloc (.cells #[.int .u32 (ad : Int), .int .u32 (ma : Int)] 126))) q (g.no (Kp.alloc (.cells #[.int .u32 (ad : Int), .int .u32 (ma : Int)] 126))) ho)
  have BX : Hid ((w.alloc (.cells #[.int .u32 (ad : Int), .int .u32 (ma : Int)] 126)).heap[w.heap.size]? = some (.cells #[.int .u32 (ad : Int), .int .u32 (ma : Int)] 126 (0, 0))) := Lib.hid (heap_alloc_new _ _)
  have KA : Hid (Kp No w (w.alloc (.cells #[.int .u32 (ad : Int), .int .u32 (ma : Int)] 126))) := Lib.hid (Kp.alloc _)
  have W := Lib.hid (fun (x : World) (h : Gl x) => Width_in k hk5 h)
  have V := Lib.hid (fun (x : World) (h : Gl x) (b : Nat) (hb : b < fw k) => HVar_in k b nx hk5 hb h)
  have RP := Lib.hid (fun (j : Nat) (hj : j < fw k) => wldP (k := k) (nx := nx) (ad := ad) (ma := ma) hk5 hj)
  rw [hf32] at W V RP
  have J0 : Hid (WldR (w.alloc (.cells #[.int .u32 (ad : Int), .int .u32 (ma : Int)] 126)) p L c B k nx ad ma 32 (.int .i64 1) (.int .i64 31) (w.alloc (.cells #[.int .u32 (ad : Int), .int .u32 (ma : Int)] 126))) := Lib.hid (by
    refine ⟨0, 1, M, L, by omega, rfl, rfl, ?_⟩
    have h := H0.out.consts
    rw [Nat.zero_mul, Nat.add_zero]
    exact h.sub (fun x hx => by
      rcases List.mem_cons.1 hx with rfl | hx
      · exact .tail _ (.head _)
      · exact .tail _ (.tail _ hx)))
  have HBL := Lib.hid hboxL
  clear R q g ho hf32 hboxL
  rcases (show k = 0 ∨ k = 1 by omega) with rfl | rfl
  all_goals
    go_enter Tryz.func68, Tryz.ntmps68
    go_wp2_with fail
    refine (W.out _ H0.out.gl).mono ?_
    rintro e w' ⟨rfl, rfl⟩
    clear H0
    go_wp2_with fail
    generalize w.alloc (.cells #[.int .u32 (ad : Int), .int .u32 (ma : Int)] 126) = wA at *
    go_loopg [9, 10] 32 (fun gk s9 s10 wr => WldR wA p L c B _ nx ad ma gk s9 s10 wr)
    case atStart => exact J0.out
    case round =>
      clear J0
      obtain ⟨j, f, M1, L1, hj, rfl, rfl, h⟩ := hrel
      have HJ := Lib.hid hj
      by_cases hlt : j < 32
      · obtain ⟨b, hb⟩ : ∃ b : Nat, b = 32 - 1 - j := ⟨_, rfl⟩
        have hbi : (31 : Int) - (j : Int) = (b : Int) := by omega
        have rp := RP.out j hlt
        have VB := Lib.hid (V.out wr h.gl b (by omega))
        have WB := Lib.hid (W.out wr h.gl)
        have hkk : 31 - b = j := by omega
        have bx := BX.out
        rw [← h.sd.kp.block _ (heap_lt bx) HBL.out] at bx
        have c0 : wr.cell? ⟨w.heap.size, 0, none⟩ = some (.int .u32 (ad : Int)) := by rw [cell_of_row _ _ _ _ _ _ bx]; rfl
        have c1 : wr.cell? ⟨w.heap.size, 1, none⟩ = some (.int .u32 (ma : Int)) := by rw [cell_of_row _ _ _ _ _ _ bx]; rfl
        have l1 : (bits BinOp.and IntKind.u32 ((ma : Int) / 2 ^ (31 - b)) 1 == 1) = ma.testBit j := by rw [hkk]; exact bit_u32 hma
        have l2 : (bits BinOp.and IntKind.u32 ((ad : Int) / 2 ^ (31 - b)) 1 == 0) = !ad.testBit j := by rw [hkk]; exact bit_u32_zero had
        have hb0 : (0 : Int) ≤ (b : Int) := by omega
        have hbw : (b : Int) ≤ 31 := by omega
        rw [hbi]
        have RPH := Lib.hid rp
        have hv := rp.v220
        have H1 := Lib.hid h
        have HBI := Lib.hid hbi
        have DBX := Lib.hid (fun (M2 : Mgr) (L2 : Lay) (c2 : Nat) (B2 : List (Int × Bfn)) (y : World) (f2 : Hf wA p L 220 c2 y M2 L2 B2) => (by
          have bx := BX.out
          rw [← f2.sd.kp.block _ (heap_lt bx) HBL.out] at bx
          exact (⟨by rw [cell_of_row _ _ _ _ _ _ bx]; rfl, by rw [cell_of_row _ _ _ _ _ _ bx]; rfl⟩ : y.cell? ⟨w.heap.size, 0, none⟩ = some (.int .u32 (ad : Int)) ∧ y.cell? ⟨w.heap.size, 1, none⟩ = some (.int .u32 (ma : Int)))))
        rw [← hb] at RPH hv
        clear hb hbi h rp hj hkk bx
        generalize fvar _ b nx = v at *
        have hcc : c + j * 50000 + 50000 ≤ 500002000000 := by have := hlt; omega
        cases hmb : ma.testBit j
        · rw [hmb] at l1
          cases hab : ad.testBit j
          · rw [hab] at l2
            go_wp2_with fail
            refine WB.out.mono ?_
            rintro e w' ⟨rfl, rfl⟩
            go_wp2_with fail
            refine VB.out.mono ?_
            rintro e w' ⟨rfl, rfl⟩
            go_wp2_with fail
            refine (VarQ H1.out.rep H1.out.qk hv (by omega)).mono ?_
            intro e w2 h2
            obtain ⟨x, M2, L2, rfl, hx0, f2⟩ := H1.out.step h2
            have H2 := Lib.hid f2
            clear h2 f2 H1 VB c0 c1
            obtain ⟨c0, c1⟩ := DBX.out _ _ _ _ _ H2.out
            go_wp2_with fail
            refine (NotQ H2.out.rep H2.out.qk (f := x) (F := fun a => a v) (.head _) (s := 2) (PSt.var 220 v hv) (by omega)).mono ?_
            intro e w4 h4
            obtain ⟨y, M4, L4, rfl, hx4, f4⟩ := H2.out.step h4
            have H4 := Lib.hid f4
            clear h4 f4 H2 c0 c1
            obtain ⟨c0, c1⟩ := DBX.out _ _ _ _ _ H4.out
            go_wp2_with fail
            refine (AndQ H4.out.rep H4.out.qk (f := y) (g := f) (F := fun a => !a v) (G := wiF _ nx ad ma j) (.head _) (.tail _ (.tail _ (.head _))) (s := 100) RPH.out.and0 (by omega)).mono ?_
            intro e w5 h5
            obtain ⟨f2, M5, L5, rfl, hx5, f5⟩ := H4.out.step h5
            have JN : Hid (WldR wA p L c B _ nx ad ma (32 - (j + 1)) (.int .i64 f2) (.int .i64 ((b : Int) - 1)) w5) := Lib.hid (by
              refine ⟨j + 1, f2, M5, L5, by omega, rfl, ?_, ?_⟩
              · have := HBI.out
                rw [show (31 : Int) - ((j + 1 : Nat) : Int) = (b : Int) - 1 by omega]
              · refine ((f5.cong (RPH.out.a0 hmb hab)).mono (c' := c + (j + 1) * 50000) (by omega)).sub (fun z hz => ?_)
                rcases List.mem_cons.1 hz with rfl | hz
                · exact .head _
                · exact .tail _ (.tail _ (.tail _ (.tail _ hz))))
            clear h5 f5 H4 c0 c1
            go_wp2_with fail
            go_roundg (32 - (j + 1))
            case measure => have := HJ.out; omega
            case rel => exact JN.out
          · rw [hab] at l2
            go_wp2_with fail
            refine WB.out.mono ?_
            rintro e w' ⟨rfl, rfl⟩
            go_wp2_with fail
            refine VB.out.mono ?_
            rintro e w' ⟨rfl, rfl⟩
            go_wp2_with fail
            refine (VarQ H1.out.rep H1.out.qk hv (by omega)).mono ?_
            intro e w2 h2
            obtain ⟨x, M2, L2, rfl, hx0, f2⟩ := H1.out.step h2
            have H2 := Lib.hid f2
            clear h2 f2 H1 VB c0 c1
            obtain ⟨c0, c1⟩ := DBX.out _ _ _ _ _ H2.out
            have H4 := H2
            go_wp2_with fail
            refine (AndQ H4.out.rep H4.out.qk (f := x) (g := f) (F := fun a => a v) (G := wiF _ nx ad ma j) (.head _) (.tail _ (.head _)) (s := 100) RPH.out.and1 (by omega)).mono ?_
            intro e w5 h5
            obtain ⟨f2, M5, L5, rfl, hx5, f5⟩ := H4.out.step h5
            have JN : Hid (WldR wA p L c B _ nx ad ma (32 - (j + 1)) (.int .i64 f2) (.int .i64 ((b : Int) - 1)) w5) := Lib.hid (by
              refine ⟨j + 1, f2, M5, L5, by omega, rfl, ?_, ?_⟩
              · have := HBI.out
                rw [show (31 : Int) - ((j + 1 : Nat) : Int) = (b : Int) - 1 by omega]
              · refine ((f5.cong (RPH.out.a1 hmb hab)).mono (c' := c + (j + 1) * 50000) (by omega)).sub (fun z hz => ?_)
                rcases List.mem_cons.1 hz with rfl | hz
                · exact .head _
                · exact .tail _ (.tail _ (.tail _ hz)))
            clear h5 f5 H4 H2 c0 c1
            go_wp2_with fail
            go_roundg (32 - (j + 1))
            case measure => have := HJ.out; omega
            case rel => exact JN.out
        · rw [hmb] at l1
          have JN : Hid (WldR wA p L c B _ nx ad ma (32 - (j + 1)) (.int .i64 f) (.int .i64 ((b : Int) - 1)) wr) := Lib.hid (by
            refine ⟨j + 1, f, M1, L1, by omega, rfl, ?_, (H1.out.cong (RPH.out.skip hmb)).mono (by omega)⟩
            have := HBI.out
            rw [show (31 : Int) - ((j + 1 : Nat) : Int) = (b : Int) - 1 by omega])
          go_wp2_with fail
          refine WB.out.mono ?_
          rintro e w' ⟨rfl, rfl⟩
          go_wp2_with fail
          go_roundg (32 - (j + 1))
          case measure => have := HJ.out; omega
          case rel => exact JN.out
      · obtain rfl : j = 32 := by omega
        have FIN : Hid (OpQ p 220 (c + 10000000) L w (wiF _ nx ad ma 32) B (.returned (.int .i64 f)) wr) := Lib.hid (OpQ.before KA.out (h.ret (.head _) (fun x hx => .tail _ hx) (by omega)))
        clear h hj hlt
        have hbi : (31 : Int) - ((32 : Nat) : Int) = -1 := by omega
        rw [hbi]
        clear hbi
        go_wp2_with fail
        go_ret
        exact FIN.out

end Go.Proofs.YtdgnbbmgcgfibaaGreatDoor
