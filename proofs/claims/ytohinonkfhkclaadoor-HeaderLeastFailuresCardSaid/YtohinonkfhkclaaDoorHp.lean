/-
  The state of a function of the package header on the way: the manager, its Refs, the table of the fields.
-/
import Derived.Test.YtohinonkfhkclaaDoorOps
import Derived.Test.YtohinonkfhkclaaDoorQ
import Derived.Test.YtohinonkfhkclaaDoorTab
namespace Go.Proofs.YtohinonkfhkclaaDoor

def fw (k : Nat) : Nat := [32, 32, 8, 16, 16].getD k 0
def ff (k : Nat) : Nat := [0, 32, 64, 72, 88].getD k 0
def hvar (bit : Nat) (nx : Bool) : Nat := 12 + 2 * bit + (if nx then 1 else 0)
def fvar (k bit : Nat) (nx : Bool) : Nat := hvar (ff k + bit) nx
def fend (k : Nat) : Nat := 12 + 2 * (ff k + fw k)
theorem five {k : Nat} (h : k < 5) : k = 0 ∨ k = 1 ∨ k = 2 ∨ k = 3 ∨ k = 4 := by omega
theorem fw_le (k : Nat) : fw k ≤ 32 := by
  by_cases h : k < 5
  · rcases five h with rfl | rfl | rfl | rfl | rfl <;> decide
  · simp [fw, List.getD, show ¬ k < 5 from h]
theorem fw_pos {k : Nat} (h : k < 5) : 8 ≤ fw k := by rcases five h with rfl | rfl | rfl | rfl | rfl <;> decide
theorem ff_fw {k : Nat} (h : k < 5) : ff k + fw k ≤ 104 := by rcases five h with rfl | rfl | rfl | rfl | rfl <;> decide
theorem fw_out {k : Nat} (h : ¬ k < 5) : fw k = 0 := by simp [fw, List.getD, show ¬ k < 5 from h]
theorem hvar_lt {b : Nat} (h : b < 104) (nx : Bool) : hvar b nx < 220 := by unfold hvar; cases nx <;> simp <;> omega
theorem fvar_lt {k b : Nat} (hk : k < 5) (hb : b < fw k) (nx : Bool) : fvar k b nx < 220 := hvar_lt (by have := ff_fw hk; omega) nx

/-- Bit i of field k, counted from the last one. -/
def fbit (k : Nat) (nx : Bool) (a : Nat → Bool) (i : Nat) : Bool := a (fvar k (fw k - 1 - i) nx)
def fval (k : Nat) (nx : Bool) (a : Nat → Bool) : Nat := bval (fbit k nx a) (fw k)
def abF (k : Nat) (nx : Bool) (lo j : Nat) : (Nat → Bool) → Bool := fun a => aboveB lo (fbit k nx a) j
def beF (k : Nat) (nx : Bool) (hi j : Nat) : (Nat → Bool) → Bool := fun a => belowB hi (fbit k nx a) j
def wiF (k : Nat) (nx : Bool) (ad ma j : Nat) : (Nat → Bool) → Bool := fun a => wildB ad ma (fbit k nx a) j

section
variable {k j : Nat} {nx : Bool}
theorem fvar_eq (k b : Nat) (nx : Bool) : fvar k b nx = 12 + 2 * (ff k + b) + (if nx then 1 else 0) := rfl
theorem nx_le (nx : Bool) : (if nx then 1 else 0) ≤ 1 := by cases nx <;> simp

theorem abF_rd (lo : Nat) : ∀ j, j ≤ fw k → Rd (fvar k (fw k - j) nx) (fend k) (abF k nx lo j)
  | 0, _ => Rd.const _ _ _
  | j + 1, h => by
    have ih := abF_rd lo j (by omega)
    have e : fw k - (j + 1) = fw k - 1 - j := by omega
    have := fvar_eq k (fw k - j) nx
    have := fvar_eq k (fw k - (j + 1)) nx
    have he : fend k = 12 + 2 * (ff k + fw k) := rfl
    have hn := nx_le nx
    have h1 : Rd (fvar k (fw k - (j + 1)) nx) (fend k) (fun a => fbit k nx a j) := by
      have := Rd.var (fvar k (fw k - (j + 1)) nx)
      rw [e] at this ⊢
      exact this.mono (Nat.le_refl _) (by rw [← e]; omega)
    have h2 := ih.mono (lo' := fvar k (fw k - (j + 1)) nx) (hi' := fend k) (by omega) (Nat.le_refl _)
    intro a b hab
    show aboveB _ _ _ = aboveB _ _ _
    simp only [aboveB]
    rw [show fbit k nx a j = fbit k nx b j from h1 a b hab, show aboveB lo (fbit k nx a) j = aboveB lo (fbit k nx b) j from h2 a b hab]
theorem beF_rd (hi : Nat) : ∀ j, j ≤ fw k → Rd (fvar k (fw k - j) nx) (fend k) (beF k nx hi j)
  | 0, _ => Rd.const _ _ _
  | j + 1, h => by
    have ih := beF_rd hi j (by omega)
    have e : fw k - (j + 1) = fw k - 1 - j := by omega
    have := fvar_eq k (fw k - j) nx
    have := fvar_eq k (fw k - (j + 1)) nx
    have he : fend k = 12 + 2 * (ff k + fw k) := rfl
    have hn := nx_le nx
    have h1 : Rd (fvar k (fw k - (j + 1)) nx) (fend k) (fun a => fbit k nx a j) := by
      have := Rd.var (fvar k (fw k - (j + 1)) nx)
      rw [e] at this ⊢
      exact this.mono (Nat.le_refl _) (by rw [← e]; omega)
    have h2 := ih.mono (lo' := fvar k (fw k - (j + 1)) nx) (hi' := fend k) (by omega) (Nat.le_refl _)
    intro a b hab
    show belowB _ _ _ = belowB _ _ _
    simp only [belowB]
    rw [show fbit k nx a j = fbit k nx b j from h1 a b hab, show belowB hi (fbit k nx a) j = belowB hi (fbit k nx b) j from h2 a b hab]
theorem wiF_rd (ad ma : Nat) : ∀ j, j ≤ fw k → Rd (fvar k (fw k - j) nx) (fend k) (wiF k nx ad ma j)
  | 0, _ => Rd.const _ _ _
  | j + 1, h => by
    have ih := wiF_rd ad ma j (by omega)
    have e : fw k - (j + 1) = fw k - 1 - j := by omega
    have := fvar_eq k (fw k - j) nx
    have := fvar_eq k (fw k - (j + 1)) nx
    have he : fend k = 12 + 2 * (ff k + fw k) := rfl
    have hn := nx_le nx
    have h1 : Rd (fvar k (fw k - (j + 1)) nx) (fend k) (fun a => fbit k nx a j) := by
      have := Rd.var (fvar k (fw k - (j + 1)) nx)
      rw [e] at this ⊢
      exact this.mono (Nat.le_refl _) (by rw [← e]; omega)
    have h2 := ih.mono (lo' := fvar k (fw k - (j + 1)) nx) (hi' := fend k) (by omega) (Nat.le_refl _)
    intro a b hab
    show wildB _ _ _ _ = wildB _ _ _ _
    simp only [wildB]
    rw [show fbit k nx a j = fbit k nx b j from h1 a b hab, show wildB ad ma (fbit k nx a) j = wildB ad ma (fbit k nx b) j from h2 a b hab]

/-- One bit above what is there. -/
theorem and_bit {F : (Nat → Bool) → Bool} {s : Nat} (hk : k < 5) (hj : j < fw k) (hF : Rd (fvar k (fw k - j) nx) (fend k) F) (hs : PSt 220 F s) (x : Bool) : PSt 220 (fun a => (fbit k nx a j ^^ x) && F a) (s + 3) := by
  have e : fw k - 1 - j = fw k - (j + 1) := by omega
  have h1 := fvar_eq k (fw k - j) nx
  have h2 := fvar_eq k (fw k - 1 - j) nx
  have h3 : fend k = 12 + 2 * (ff k + fw k) := rfl
  have h4 := ff_fw hk
  have h5 := nx_le nx
  have hv : Rd (fvar k (fw k - 1 - j) nx) (fvar k (fw k - 1 - j) nx + 1) (fun a => fbit k nx a j ^^ x) := fun a b hab => by
    show (a _ ^^ x) = (b _ ^^ x)
    rw [hab _ (Nat.le_refl _) (by omega)]
  have hp : PSt 220 (fun a => fbit k nx a j ^^ x) 2 := by
    have := PSt.var 220 (fvar k (fw k - 1 - j) nx) (by omega)
    cases x
    · exact this.congr (fun a => by show (a _ ^^ false) = a _; simp)
    · exact this.not.congr (fun a => by show (a _ ^^ true) = !a _; simp)
  have hF' : Rd (fvar k (fw k - j) nx) 220 F := by
    intro a b hab
    refine hF a b (fun v g1 g2 => hab v g1 ?_)
    omega
  exact (PSt.and_above hv hF' (by omega) (by omega) (Nat.le_refl _) hp hs).mono (by omega)
theorem or_bit {F : (Nat → Bool) → Bool} {s : Nat} (hk : k < 5) (hj : j < fw k) (hF : Rd (fvar k (fw k - j) nx) (fend k) F) (hs : PSt 220 F s) (x : Bool) : PSt 220 (fun a => (fbit k nx a j ^^ x) || F a) (s + 3) :=
  (and_bit hk hj hF.not hs.not (!x)).not.congr (fun a => by cases fbit k nx a j <;> cases x <;> cases F a <;> rfl)

theorem abF_st (hk : k < 5) (lo : Nat) : ∀ j, j ≤ fw k → PSt 220 (abF k nx lo j) (1 + 3 * j)
  | 0, _ => PSt.const _ _
  | j + 1, h => by
    have ih := abF_st hk lo j (by omega)
    have rd := abF_rd (k := k) (nx := nx) lo j (by omega)
    by_cases hb : lo.testBit j = true
    · exact ((and_bit hk (by omega) rd ih false).congr (fun a => by show aboveB _ _ _ = _; simp only [aboveB, hb, if_true, Bool.xor_false]; rfl)).mono (by omega)
    · exact ((or_bit hk (by omega) rd ih false).congr (fun a => by show aboveB _ _ _ = _; simp only [aboveB, hb, Bool.xor_false]; rfl)).mono (by omega)
theorem beF_st (hk : k < 5) (hi : Nat) : ∀ j, j ≤ fw k → PSt 220 (beF k nx hi j) (1 + 3 * j)
  | 0, _ => PSt.const _ _
  | j + 1, h => by
    have ih := beF_st hk hi j (by omega)
    have rd := beF_rd (k := k) (nx := nx) hi j (by omega)
    by_cases hb : hi.testBit j = true
    · exact ((or_bit hk (by omega) rd ih true).congr (fun a => by show belowB _ _ _ = _; simp only [belowB, hb, if_true, Bool.xor_true]; rfl)).mono (by omega)
    · exact ((and_bit hk (by omega) rd ih true).congr (fun a => by show belowB _ _ _ = _; simp only [belowB, hb, Bool.xor_true]; rfl)).mono (by omega)
theorem wiF_st (hk : k < 5) (ad ma : Nat) : ∀ j, j ≤ fw k → PSt 220 (wiF k nx ad ma j) (1 + 3 * j)
  | 0, _ => PSt.const _ _
  | j + 1, h => by
    have ih := wiF_st hk ad ma j (by omega)
    have rd := wiF_rd (k := k) (nx := nx) ad ma j (by omega)
    by_cases hb : ma.testBit j = true
    · exact (ih.congr (fun a => by show wildB _ _ _ _ = _; simp only [wildB, hb, if_true]; rfl)).mono (by omega)
    · exact ((and_bit hk (by omega) rd ih (!ad.testBit j)).congr (fun a => by
        show wildB _ _ _ _ = _
        simp only [wildB, hb]
        show ((fbit k nx a j == ad.testBit j) && _) = _
        congr 1
        cases fbit k nx a j <;> cases ad.testBit j <;> rfl)).mono (by omega)
end

/-- The packets whose field k is at least lo and at most hi. -/
def rangeF (k : Nat) (nx : Bool) (lo hi : Nat) : (Nat → Bool) → Bool := fun a => abF k nx lo (fw k) a && beF k nx hi (fw k) a
theorem rangeF_eq {k : Nat} {nx : Bool} {lo hi : Nat} (h1 : lo < 2 ^ fw k) (h2 : hi < 2 ^ fw k) (a : Nat → Bool) : rangeF k nx lo hi a = decide (lo ≤ fval k nx a ∧ fval k nx a ≤ hi) := by
  unfold rangeF abF beF
  rw [aboveB_eq, belowB_eq, Nat.mod_eq_of_lt h1, Nat.mod_eq_of_lt h2, Bool.decide_and]
  rfl
theorem rangeF_st {k : Nat} {nx : Bool} (hk : k < 5) (lo hi : Nat) : PSt 220 (rangeF k nx lo hi) 10000 := by
  have h := fw_le k
  have := (PSt.op (fun x y => x && y) (abF_st (nx := nx) hk lo (fw k) (Nat.le_refl _)) (beF_st (nx := nx) hk hi (fw k) (Nat.le_refl _)))
  refine PSt.mono this ?_
  have : (1 + 3 * fw k) * (1 + 3 * fw k) ≤ 100 * 100 := Nat.mul_le_mul (by omega) (by omega)
  omega
theorem rangeF_rd {k : Nat} {nx : Bool} (lo hi : Nat) : Rd (fvar k 0 nx) (fend k) (rangeF k nx lo hi) := by
  have h1 := abF_rd (k := k) (nx := nx) lo (fw k) (Nat.le_refl _)
  have h2 := beF_rd (k := k) (nx := nx) hi (fw k) (Nat.le_refl _)
  rw [Nat.sub_self] at h1 h2
  exact Rd.op (fun x y => x && y) h1 h2

/-! ### packets -/
structure Pkt where
  src : Nat
  dst : Nat
  proto : Int
  sport : Int
  dport : Int
def u32 (x : Int) : Nat := (x % 4294967296).toNat
def Pkt.f (p : Pkt) (k : Nat) : Nat := [p.src, p.dst, u32 p.proto, u32 p.sport, u32 p.dport].getD k 0
structure Pkt.ok (p : Pkt) : Prop where
  h0 : p.src < 4294967296
  h1 : p.dst < 4294967296
  h2 : 0 ≤ p.proto ∧ p.proto ≤ 255
  h3 : 0 ≤ p.sport ∧ p.sport ≤ 65535
  h4 : 0 ≤ p.dport ∧ p.dport ≤ 65535
theorem Pkt.ok.lt {p : Pkt} (h : p.ok) {k : Nat} (hk : k < 5) : p.f k < 2 ^ fw k := by
  obtain ⟨h0, h1, h2, h3, h4⟩ := h
  rcases five hk with rfl | rfl | rfl | rfl | rfl
  · exact h0
  · exact h1
  · show u32 p.proto < 256; unfold u32; omega
  · show u32 p.sport < 65536; unfold u32; omega
  · show u32 p.dport < 65536; unfold u32; omega

/-- The field that bit b of a header is in, and the bit of the header of a packet. -/
def fieldOf (b : Nat) : Nat := if b < 32 then 0 else if b < 64 then 1 else if b < 72 then 2 else if b < 88 then 3 else 4
def Pkt.bit (p : Pkt) (b : Nat) : Bool := (p.f (fieldOf b)).testBit (fw (fieldOf b) - 1 - (b - ff (fieldOf b)))
theorem fieldOf_at {k b : Nat} (hk : k < 5) (hb : b < fw k) : fieldOf (ff k + b) = k := by
  unfold fieldOf
  rcases five hk with rfl | rfl | rfl | rfl | rfl <;> simp [ff, fw] at hb ⊢ <;> (repeat' split) <;> omega
theorem Pkt.bit_at (p : Pkt) {k b : Nat} (hk : k < 5) (hb : b < fw k) : p.bit (ff k + b) = (p.f k).testBit (fw k - 1 - b) := by
  unfold Pkt.bit
  rw [fieldOf_at hk hb, Nat.add_sub_cancel_left]

/-- The assignment of failed links, a current and a next packet. -/
def encF (down : Nat → Bool) (p q : Pkt) (v : Nat) : Bool := if v < 12 then down v else if (v - 12) % 2 = 0 then p.bit ((v - 12) / 2) else q.bit ((v - 12) / 2)
def encL (down : Nat → Bool) (p q : Pkt) : List Bool := (List.range 220).map (encF down p q)
theorem enc_link (down : Nat → Bool) (p q : Pkt) {v : Nat} (hv : v < 12) : encF down p q v = down v := by unfold encF; rw [if_pos hv]
theorem enc_bit (down : Nat → Bool) (p q : Pkt) (b : Nat) (nx : Bool) : encF down p q (hvar b nx) = (if nx then q else p).bit b := by
  unfold encF hvar
  rw [if_neg (by omega)]
  cases nx
  · have h1 : (12 + 2 * b + 0 - 12) % 2 = 0 := by omega
    have h2 : (12 + 2 * b + 0 - 12) / 2 = b := by omega
    simp only [Bool.false_eq_true, if_false, h1, h2, if_true]
  · have h1 : (12 + 2 * b + 1 - 12) % 2 = 1 := by omega
    have h2 : (12 + 2 * b + 1 - 12) / 2 = b := by omega
    simp only [if_true, h1, h2]
    rw [if_neg (by omega)]
theorem fval_enc (down : Nat → Bool) {p q : Pkt} (hp : p.ok) (hq : q.ok) {k : Nat} (hk : k < 5) (nx : Bool) {a : Nat → Bool} (ha : ∀ v, v < 220 → a v = encF down p q v) : fval k nx a = (if nx then q else p).f k := by
  have hz : (if nx then q else p).ok := by cases nx <;> simp [hp, hq]
  have e : bval (fbit k nx a) (fw k) = bval (fun i => ((if nx then q else p).f k).testBit i) (fw k) := bval_congr _ (fun i hi => by
    unfold fbit
    rw [ha _ (fvar_lt hk (by omega) nx)]
    unfold fvar
    rw [enc_bit, Pkt.bit_at _ hk (by omega)]
    congr 1
    omega)
  unfold fval
  rw [e, bval_testBit, Nat.mod_eq_of_lt (hz.lt hk)]

end Go.Proofs.YtohinonkfhkclaaDoor

namespace Go.Proofs.YtohinonkfhkclaaDoor
open Go.RowKit

/-- The table of the fields lies in its variable. -/
def Gl (w : World) : Prop := ∀ i, i < 10 → w.cell? ⟨0, i, none⟩ = some (.int .i64 ([0, 32, 32, 32, 64, 8, 72, 16, 88, 16].getD i 0))
theorem Gl.lt {w : World} (h : Gl w) : 0 < w.heap.size := World.block_lt_of_cell? _ _ (h 0 (by omega))
theorem Gl.kp {A : Nat → Prop} {w w' : World} (h : Gl w) (k : Kp A w w') (hn : ¬ A 0) : Gl w' := fun i hi => by rw [k.cell h.lt hn]; exact h i hi
theorem Gl.no {w w' : World} (h : Gl w) (k : Kp No w w') : Gl w' := h.kp k (fun x => x)

structure Hf (w0 : World) (p : Nat) (L0 : Lay) (n c : Nat) (w : World) (M : Mgr) (L : Lay) (B : List (Int × Bfn)) : Prop where
  sd : Sd w0 p L0 w M L
  qk : Qk n c M B
  gl : Gl w
  off : ¬ L.at p 0

section
variable {w0 w w' : World} {p n c : Nat} {L0 L : Lay} {M M' : Mgr} {B : List (Int × Bfn)}
theorem Hf.rep (h : Hf w0 p L0 n c w M L B) : Rep w p M L := h.sd.rep
theorem Hf.start (R : Rep w p M L) (q : Qk n c M B) (g : Gl w) (o : ¬ L.at p 0) : Hf w p L n c w M L B := ⟨Sd.start R, q, g, o⟩
theorem Hf.no (h : Hf w0 p L0 n c w M L B) (k : Kp No w w') : Hf w0 p L0 n c w' M L B := ⟨h.sd.no k, h.qk, h.gl.no k, h.off⟩
theorem Hf.sub {B' : List (Int × Bfn)} (h : Hf w0 p L0 n c w M L B) (hb : ∀ x, x ∈ B' → x ∈ B) : Hf w0 p L0 n c w M L B' := ⟨h.sd, h.qk.sub hb, h.gl, h.off⟩
theorem Hf.mono {c' : Nat} (h : Hf w0 p L0 n c w M L B) (hc : c ≤ c') : Hf w0 p L0 n c' w M L B := ⟨h.sd, h.qk.mono hc, h.gl, h.off⟩
theorem Hf.consts (h : Hf w0 p L0 n c w M L B) : Hf w0 p L0 n c w M L ((0, fun _ => false) :: (1, fun _ => true) :: B) := ⟨h.sd, h.qk.consts, h.gl, h.off⟩
theorem Hf.cong {r : Int} {F G : Bfn} (h : Hf w0 p L0 n c w M L ((r, F) :: B)) (e : ∀ a, F a = G a) : Hf w0 p L0 n c w M L ((r, G) :: B) := ⟨h.sd, h.qk.cong e, h.gl, h.off⟩
theorem Hf.ret_step {v : Value} {e : Ending} (h : Hf w0 p L0 n c w M L B) (r : Ret p L w M' v e w') {c' : Nat} {B' : List (Int × Bfn)} (q : Qk n c' M' B') : e = .returned v ∧ ∃ L', Hf w0 p L0 n c' w' M' L' B' := by
  obtain ⟨L', he, rr, k, f⟩ := r
  refine ⟨he, L', ⟨rr, h.sd.kp.trans h.sd.fr k, fun x hx => ?_⟩, q, h.gl.kp k h.off, fun hx => ?_⟩
  · rcases f x hx with h1 | h1
    · exact h.sd.fr x h1
    · right; have := h.sd.kp.size; omega
  · rcases f _ hx with h1 | h1
    · exact h.off h1
    · have := h.gl.lt; omega
theorem Hf.step {F : Bfn} {e : Ending} {c' : Nat} (h : Hf w0 p L0 n c w M L B) (o : OpQ p n c' L w F B e w') : ∃ r M' L', e = .returned (.int .i64 r) ∧ 0 ≤ r ∧ Hf w0 p L0 n c' w' M' L' ((r, F) :: B) := by
  obtain ⟨r, M', hr, q, h0⟩ := o
  obtain ⟨he, L', hf⟩ := h.ret_step hr q
  exact ⟨r, M', L', he, h0, hf⟩
/-- A Ref of the bank is handed back. -/
theorem Hf.ret {B0 : List (Int × Bfn)} {r : Int} {F : Bfn} {c' : Nat} (h : Hf w0 p L0 n c w M L B) (hm : (r, F) ∈ B) (hb : ∀ x, x ∈ B0 → x ∈ B) (hc : c ≤ c') : OpQ p n c' L0 w0 F B0 (.returned (.int .i64 r)) w :=
  ⟨r, M, h.sd.ret _, (h.qk.mono hc).sub (fun x hx => by
    rcases List.mem_cons.1 hx with rfl | hx
    · exact hm
    · exact hb x hx), h.qk.nonneg hm⟩
end

/-- 'Failure'. -/
theorem Failure_ok (x : Int) (w : World) : Calls Tryd.prog 44 #[.int .i64 x] w fun e w' => e = .returned (.int .i64 (if 0 ≤ x ∧ x < 12 then x else -1)) ∧ w = w' := by
  by_cases h0 : 0 ≤ x
  · by_cases h1 : x < 12
    · rw [if_pos ⟨h0, h1⟩]
      go_enter Tryd.func44, Tryd.ntmps44
      go_wp2_with fail
      go_ret
      exact ⟨rfl, rfl⟩
    · rw [if_neg (fun h => h1 h.2)]
      go_enter Tryd.func44, Tryd.ntmps44
      go_wp2_with fail
      go_ret
      exact ⟨rfl, rfl⟩
  · rw [if_neg (fun h => h0 h.1)]
    go_enter Tryd.func44, Tryd.ntmps44
    go_wp2_with fail
    go_ret
    exact ⟨rfl, rfl⟩

end Go.Proofs.YtohinonkfhkclaaDoor
