/-
  Walks: 'Range' of the package header.
-/
import Derived.Test.YtgglkldoclejaaaDoorHw4
namespace Go.Proofs.YtgglkldoclejaaaDoor
open Go.RowKit

/-- The packets whose field k is from lo to hi. -/
def rgF (k : Nat) (nx : Bool) (lo hi : Nat) : Bfn := fun a => decide (lo ≤ fval k nx a ∧ fval k nx a ≤ hi)
theorem rgF_no {k : Nat} {nx : Bool} {lo hi : Nat} (h : hi < lo ∨ 2 ^ fw k ≤ lo) (a : Nat → Bool) : rgF k nx lo hi a = false := by
  have := fval_lt k nx a
  unfold rgF
  rw [decide_eq_false_iff_not]
  omega
theorem rgF_range {k : Nat} {nx : Bool} {lo hi : Nat} (h1 : lo < 2 ^ fw k) (a : Nat → Bool) : rangeF k nx lo (min hi (2 ^ fw k - 1)) a = rgF k nx lo hi a := by
  have hp : 0 < 2 ^ fw k := Nat.pow_pos (by omega)
  have := fval_lt k nx a
  rw [rangeF_eq h1 (by omega)]
  unfold rgF
  rw [decide_eq_decide]
  omega
theorem rgF_st {k : Nat} {nx : Bool} (hk : k < 5) (lo hi : Nat) : PSt 220 (rgF k nx lo hi) 10000 := by
  by_cases h : lo < 2 ^ fw k
  · exact (rangeF_st hk lo (min hi (2 ^ fw k - 1))).congr (fun a => (rgF_range h a).symm)
  · exact ((PSt.const 220 false).congr (fun a => rgF_no (.inr (by omega)) a)).mono (by omega)
theorem rgF_rd {k : Nat} {nx : Bool} (lo hi : Nat) : Rd (fvar k 0 nx) (fend k) (rgF k nx lo hi) := by
  by_cases h : lo < 2 ^ fw k
  · have := rangeF_rd (k := k) (nx := nx) lo (min hi (2 ^ fw k - 1))
    intro a b hab
    rw [← rgF_range h, ← rgF_range h]
    exact this a b hab
  · intro a b _
    rw [rgF_no (.inr (by omega)), rgF_no (.inr (by omega))]

def RngR (w0 : World) (p : Nat) (L0 : Lay) (c : Nat) (B : List (Int × Bfn)) (k : Nat) (nx : Bool) (lo hi : Nat) (gk : Nat) (s13 s14 s15 : Value) (wr : World) : Prop :=
  ∃ j ab be M L, j + gk = fw k ∧ s13 = .int .i64 ab ∧ s14 = .int .i64 be ∧ s15 = .int .i64 ((fw k : Int) - 1 - (j : Int)) ∧ Hf w0 p L0 220 (c + j * 50000) wr M L ((be, beF k nx hi j) :: (ab, abF k nx lo j) :: B)

/-- What a round needs. -/
structure RngP (k : Nat) (nx : Bool) (lo hi j v : Nat) : Prop where
  v220 : v < 220
  and1 : PSt 220 (fun a => a v && abF k nx lo j a) 100
  or1 : PSt 220 (fun a => a v || abF k nx lo j a) 100
  and2 : PSt 220 (fun a => !a v && beF k nx hi j a) 100
  or2 : PSt 220 (fun a => !a v || beF k nx hi j a) 100
  a1 : lo.testBit j = true → ∀ a, (a v && abF k nx lo j a) = abF k nx lo (j + 1) a
  a0 : lo.testBit j = false → ∀ a, (a v || abF k nx lo j a) = abF k nx lo (j + 1) a
  b1 : hi.testBit j = true → ∀ a, (!a v || beF k nx hi j a) = beF k nx hi (j + 1) a
  b0 : hi.testBit j = false → ∀ a, (!a v && beF k nx hi j a) = beF k nx hi (j + 1) a
theorem rngP {k : Nat} {nx : Bool} {lo hi j : Nat} (hk : k < 5) (hj : j < fw k) : RngP k nx lo hi j (fvar k (fw k - 1 - j) nx) := by
  have hw := fw_le k
  have ra := abF_rd (k := k) (nx := nx) lo j (by omega)
  have rb := beF_rd (k := k) (nx := nx) hi j (by omega)
  have sa := abF_st (nx := nx) hk lo j (by omega)
  have sb := beF_st (nx := nx) hk hi j (by omega)
  refine ⟨fvar_lt hk (by omega) nx, ((and_bit hk hj ra sa false).congr (fun a => by rw [Bool.xor_false]; rfl)).mono (by omega), ((or_bit hk hj ra sa false).congr (fun a => by rw [Bool.xor_false]; rfl)).mono (by omega),
    ((and_bit hk hj rb sb true).congr (fun a => by rw [Bool.xor_true]; rfl)).mono (by omega), ((or_bit hk hj rb sb true).congr (fun a => by rw [Bool.xor_true]; rfl)).mono (by omega), ?_, ?_, ?_, ?_⟩
  · intro h a; show _ = aboveB _ _ _; simp only [aboveB, h, if_true]; rfl
  · intro h a; show _ = aboveB _ _ _; simp only [aboveB, h, Bool.false_eq_true, if_false]; rfl
  · intro h a; show _ = belowB _ _ _; simp only [belowB, h, if_true]; rfl
  · intro h a; show _ = belowB _ _ _; simp only [belowB, h, Bool.false_eq_true, if_false]; rfl

set_option maxRecDepth 100000 in
set_option maxHeartbeats 4000000 in
theorem Range_ok {p c : Nat} {M : Mgr} {L : Lay} {B : List (Int × Bfn)} (k : Nat) (hk : k < 5) (nx : Bool) (lo hi : Nat) (hlo : lo < 4294967296) (hhi : hi < 4294967296) {w : World} (R : Rep w p M L) (q : Qk 220 c M B) (g : Gl w) (ho : ¬ L.at p 0) (hc : c ≤ 500000000000) :
    Calls Tryd.prog 30 #[ptr p, .int .i64 (k : Int), .bool nx, .int .u32 (lo : Int), .int .u32 (hi : Int)] w (OpQ p 220 (c + 10000000) L w (rgF k nx lo hi) B) := by
  have H0 := Lib.hid (Hf.start R q g ho)
  have W := Lib.hid (fun (x : World) (h : Gl x) => Width_in k hk h)
  have hw32 := fw_le k
  have hw8 := fw_pos hk
  have hpow : 2 ^ fw k ≤ 2 ^ 32 := Nat.pow_le_pow_right (by omega) hw32
  have hpow1 : 0 < 2 ^ fw k := Nat.pow_pos (by omega)
  have hne : ((fw k : Int) == 0) = false := by simp; omega
  have hw0 : (0 : Int) ≤ (fw k : Int) := by omega
  have hmost : ((2 : Int) ^ fw k % 4294967296 - 1) % 4294967296 = ((2 ^ fw k - 1 : Nat) : Int) := by
    have e : ((2 : Int) ^ fw k) = ((2 ^ fw k : Nat) : Int) := by simp
    rw [e]
    have : 2 ^ fw k ≤ 4294967296 := hpow
    generalize 2 ^ fw k = z at *
    omega
  clear R q g ho
  by_cases hbad : hi < lo ∨ 2 ^ fw k ≤ lo
  · have FIN : Hid (OpQ p 220 (c + 10000000) L w (rgF k nx lo hi) B (.returned (.int .i64 0)) w) := Lib.hid (by
      refine Hf.ret (r := 0) (H0.out.consts.cong (G := rgF k nx lo hi) (fun a => (rgF_no hbad a).symm)) (.head _) (fun x hx => .tail _ (.tail _ hx)) (by omega))
    by_cases h1 : hi < lo
    · have h1i : (hi : Int) < (lo : Int) := by omega
      go_enter Tryd.func30, Tryd.ntmps30
      go_wp2_with fail
      refine (W.out _ H0.out.gl).mono ?_
      rintro e w' ⟨rfl, rfl⟩
      go_wp2_with fail
      go_ret
      exact FIN.out
    · have h1i : ¬ (hi : Int) < (lo : Int) := by omega
      have h2i : ((2 ^ fw k - 1 : Nat) : Int) < (lo : Int) := by omega
      generalize 2 ^ fw k - 1 = mo at *
      go_enter Tryd.func30, Tryd.ntmps30
      go_wp2_with fail
      refine (W.out _ H0.out.gl).mono ?_
      rintro e w' ⟨rfl, rfl⟩
      go_wp2_with fail
      go_ret
      exact FIN.out
  · have h1i : ¬ (hi : Int) < (lo : Int) := by omega
    have h2i : ¬ ((2 ^ fw k - 1 : Nat) : Int) < (lo : Int) := by omega
    have hmin : min (hi : Int) ((2 ^ fw k - 1 : Nat) : Int) = ((min hi (2 ^ fw k - 1) : Nat) : Int) := by omega
    have hh32 : min hi (2 ^ fw k - 1) < 4294967296 := by omega
    have EQ := Lib.hid (fun a => rgF_range (k := k) (nx := nx) (lo := lo) (hi := hi) (by omega) a)
    have RP := Lib.hid (fun (j : Nat) (hj : j < fw k) => rngP (k := k) (nx := nx) (lo := lo) (hi := min hi (2 ^ fw k - 1)) hk hj)
    have V := Lib.hid (fun (x : World) (h : Gl x) (b : Nat) (hb : b < fw k) => HVar_in k b nx hk hb h)
    have ST := Lib.hid (rangeF_st (nx := nx) hk lo (min hi (2 ^ fw k - 1)))
    have hcm : (2 ^ fw k - 1 < hi ∧ min hi (2 ^ fw k - 1) = 2 ^ fw k - 1) ∨ (¬ 2 ^ fw k - 1 < hi ∧ min hi (2 ^ fw k - 1) = hi) := by omega
    generalize min hi (2 ^ fw k - 1) = hm at *
    generalize 2 ^ fw k - 1 = mo at *
    have J0 : Hid (RngR w p L c B k nx lo hm (fw k) (.int .i64 1) (.int .i64 1) (.int .i64 ((fw k : Int) - 1)) w) := Lib.hid (by
      refine ⟨0, 1, 1, M, L, by omega, rfl, rfl, by simp, ?_⟩
      have h := H0.out.consts
      rw [Nat.zero_mul, Nat.add_zero]
      exact h.sub (fun x hx => by
        rcases List.mem_cons.1 hx with rfl | hx
        · exact .tail _ (.head _)
        · rcases List.mem_cons.1 hx with rfl | hx
          · exact .tail _ (.head _)
          · exact .tail _ (.tail _ hx)))
    have hd1 : decide (hi < lo) = false := decide_eq_false (by omega)
    have hd2 : decide (mo < lo) = false := decide_eq_false (by omega)
    clear hmin
    rcases hcm with ⟨hx, rfl⟩ | ⟨hx, rfl⟩
    · have hmost' : ((2 : Int) ^ fw k % 4294967296 - 1) = (hm : Int) := by
        generalize (2 : Int) ^ fw k = z at *
        omega
      go_enter Tryd.func30, Tryd.ntmps30
      go_wp2_with fail
      refine (W.out _ H0.out.gl).mono ?_
      rintro e w' ⟨rfl, rfl⟩
      clear W H0
      go_wp2_with fail
      go_loopg [13, 14, 15] (fw k) (fun gk s13 s14 s15 wr => RngR w p L c B k nx lo hm gk s13 s14 s15 wr)
      case atStart => exact J0.out
      case round =>
        clear J0
        obtain ⟨j, ab, be, M1, L1, hj, rfl, rfl, rfl, h⟩ := hrel
        have HJ := Lib.hid hj
        by_cases hlt : j < fw k
        · obtain ⟨b, hb⟩ : ∃ b : Nat, b = fw k - 1 - j := ⟨_, rfl⟩
          have hbi : (fw k : Int) - 1 - (j : Int) = (b : Int) := by omega
          have rp := RP.out j hlt
          rw [← hb] at rp
          have VB := Lib.hid (V.out wr h.gl b (by omega))
          have hkk : fw k - 1 - b = j := by omega
          have l1 : (bits BinOp.and IntKind.u32 ((lo : Int) / 2 ^ (fw k - 1 - b)) 1 == 1) = lo.testBit j := by rw [hkk]; exact bit_u32 hlo
          have l2 : (bits BinOp.and IntKind.u32 ((hm : Int) / 2 ^ (fw k - 1 - b)) 1 == 1) = hm.testBit j := by rw [hkk]; exact bit_u32 hh32
          have hb0 : (0 : Int) ≤ (b : Int) := by omega
          have hbw : (b : Int) + 1 ≤ (fw k : Int) := by omega
          rw [hbi]
          have RPH := Lib.hid rp
          have H1 := Lib.hid h
          have hv := rp.v220
          have HKK := Lib.hid hkk
          have HBI := Lib.hid hbi
          clear hb hbi h rp hj hkk
          generalize fvar k b nx = v at *
          have hcc : c + j * 50000 + 50000 ≤ 500002000000 := by have := hlt; omega
          cases hlb : lo.testBit j <;> cases hhb : hm.testBit j
          · rw [hlb] at l1
            rw [hhb] at l2
            go_wp2_with fail
            refine VB.out.mono ?_
            rintro e w' ⟨rfl, rfl⟩
            go_wp2_with fail
            refine (VarQ H1.out.rep H1.out.qk hv (by omega)).mono ?_
            intro e w2 h2
            obtain ⟨x, M2, L2, rfl, hx0, f2⟩ := H1.out.step h2
            have H2 := Lib.hid f2
            clear h2 f2 H1 VB
            go_wp2_with fail
            refine (OrQ H2.out.rep H2.out.qk (f := x) (g := ab) (F := fun a => a v) (G := abF k nx lo j) (.head _) (.tail _ (.tail _ (.head _))) (s := 100) RPH.out.or1 (by omega)).mono ?_
            intro e w3 h3
            obtain ⟨ab2, M3, L3, rfl, hx3, f3⟩ := H2.out.step h3
            have H3 := Lib.hid (f3.cong (G := abF k nx lo (j + 1)) (RPH.out.a0 hlb))
            clear h3 f3 H2
            go_wp2_with fail
            refine (NotQ H3.out.rep H3.out.qk (f := x) (F := fun a => a v) (.tail _ (.head _)) (s := 2) (PSt.var 220 v hv) (by omega)).mono ?_
            intro e w4 h4
            obtain ⟨y, M4, L4, rfl, hx4, f4⟩ := H3.out.step h4
            have H4 := Lib.hid f4
            clear h4 f4 H3
            go_wp2_with fail
            refine (AndQ H4.out.rep H4.out.qk (f := y) (g := be) (F := fun a => !a v) (G := beF k nx hm j) (.head _) (.tail _ (.tail _ (.tail _ (.head _)))) (s := 100) RPH.out.and2 (by omega)).mono ?_
            intro e w5 h5
            obtain ⟨be2, M5, L5, rfl, hx5, f5⟩ := H4.out.step h5
            have JN : Hid (RngR w p L c B k nx lo hm (fw k - (j + 1)) (.int .i64 ab2) (.int .i64 be2) (.int .i64 ((b : Int) - 1)) w5) := Lib.hid (by
              refine ⟨j + 1, ab2, be2, M5, L5, by omega, rfl, rfl, ?_, ?_⟩
              · have := HBI.out
                rw [show (fw k : Int) - 1 - ((j + 1 : Nat) : Int) = (b : Int) - 1 by omega]
              · refine ((f5.cong (G := beF k nx hm (j + 1)) (RPH.out.b0 hhb)).mono (c' := c + (j + 1) * 50000) (by omega)).sub (fun z hz => ?_)
                rcases List.mem_cons.1 hz with rfl | hz
                · exact .head _
                · rcases List.mem_cons.1 hz with rfl | hz
                  · exact .tail _ (.tail _ (.head _))
                  · exact .tail _ (.tail _ (.tail _ (.tail _ (.tail _ (.tail _ hz))))))
            clear h5 f5 H4
            go_wp2_with fail
            go_roundg (fw k - (j + 1))
            case measure => have := HJ.out; omega
            case rel => exact JN.out
          · rw [hlb] at l1
            rw [hhb] at l2
            go_wp2_with fail
            refine VB.out.mono ?_
            rintro e w' ⟨rfl, rfl⟩
            go_wp2_with fail
            refine (VarQ H1.out.rep H1.out.qk hv (by omega)).mono ?_
            intro e w2 h2
            obtain ⟨x, M2, L2, rfl, hx0, f2⟩ := H1.out.step h2
            have H2 := Lib.hid f2
            clear h2 f2 H1 VB
            go_wp2_with fail
            refine (OrQ H2.out.rep H2.out.qk (f := x) (g := ab) (F := fun a => a v) (G := abF k nx lo j) (.head _) (.tail _ (.tail _ (.head _))) (s := 100) RPH.out.or1 (by omega)).mono ?_
            intro e w3 h3
            obtain ⟨ab2, M3, L3, rfl, hx3, f3⟩ := H2.out.step h3
            have H3 := Lib.hid (f3.cong (G := abF k nx lo (j + 1)) (RPH.out.a0 hlb))
            clear h3 f3 H2
            go_wp2_with fail
            refine (NotQ H3.out.rep H3.out.qk (f := x) (F := fun a => a v) (.tail _ (.head _)) (s := 2) (PSt.var 220 v hv) (by omega)).mono ?_
            intro e w4 h4
            obtain ⟨y, M4, L4, rfl, hx4, f4⟩ := H3.out.step h4
            have H4 := Lib.hid f4
            clear h4 f4 H3
            go_wp2_with fail
            refine (OrQ H4.out.rep H4.out.qk (f := y) (g := be) (F := fun a => !a v) (G := beF k nx hm j) (.head _) (.tail _ (.tail _ (.tail _ (.head _)))) (s := 100) RPH.out.or2 (by omega)).mono ?_
            intro e w5 h5
            obtain ⟨be2, M5, L5, rfl, hx5, f5⟩ := H4.out.step h5
            have JN : Hid (RngR w p L c B k nx lo hm (fw k - (j + 1)) (.int .i64 ab2) (.int .i64 be2) (.int .i64 ((b : Int) - 1)) w5) := Lib.hid (by
              refine ⟨j + 1, ab2, be2, M5, L5, by omega, rfl, rfl, ?_, ?_⟩
              · have := HBI.out
                rw [show (fw k : Int) - 1 - ((j + 1 : Nat) : Int) = (b : Int) - 1 by omega]
              · refine ((f5.cong (G := beF k nx hm (j + 1)) (RPH.out.b1 hhb)).mono (c' := c + (j + 1) * 50000) (by omega)).sub (fun z hz => ?_)
                rcases List.mem_cons.1 hz with rfl | hz
                · exact .head _
                · rcases List.mem_cons.1 hz with rfl | hz
                  · exact .tail _ (.tail _ (.head _))
                  · exact .tail _ (.tail _ (.tail _ (.tail _ (.tail _ (.tail _ hz))))))
            clear h5 f5 H4
            go_wp2_with fail
            go_roundg (fw k - (j + 1))
            case measure => have := HJ.out; omega
            case rel => exact JN.out
          · rw [hlb] at l1
            rw [hhb] at l2
            go_wp2_with fail
            refine VB.out.mono ?_
            rintro e w' ⟨rfl, rfl⟩
            go_wp2_with fail
            refine (VarQ H1.out.rep H1.out.qk hv (by omega)).mono ?_
            intro e w2 h2
            obtain ⟨x, M2, L2, rfl, hx0, f2⟩ := H1.out.step h2
            have H2 := Lib.hid f2
            clear h2 f2 H1 VB
            go_wp2_with fail
            refine (AndQ H2.out.rep H2.out.qk (f := x) (g := ab) (F := fun a => a v) (G := abF k nx lo j) (.head _) (.tail _ (.tail _ (.head _))) (s := 100) RPH.out.and1 (by omega)).mono ?_
            intro e w3 h3
            obtain ⟨ab2, M3, L3, rfl, hx3, f3⟩ := H2.out.step h3
            have H3 := Lib.hid (f3.cong (G := abF k nx lo (j + 1)) (RPH.out.a1 hlb))
            clear h3 f3 H2
            go_wp2_with fail
            refine (NotQ H3.out.rep H3.out.qk (f := x) (F := fun a => a v) (.tail _ (.head _)) (s := 2) (PSt.var 220 v hv) (by omega)).mono ?_
            intro e w4 h4
            obtain ⟨y, M4, L4, rfl, hx4, f4⟩ := H3.out.step h4
            have H4 := Lib.hid f4
            clear h4 f4 H3
            go_wp2_with fail
            refine (AndQ H4.out.rep H4.out.qk (f := y) (g := be) (F := fun a => !a v) (G := beF k nx hm j) (.head _) (.tail _ (.tail _ (.tail _ (.head _)))) (s := 100) RPH.out.and2 (by omega)).mono ?_
            intro e w5 h5
            obtain ⟨be2, M5, L5, rfl, hx5, f5⟩ := H4.out.step h5
            have JN : Hid (RngR w p L c B k nx lo hm (fw k - (j + 1)) (.int .i64 ab2) (.int .i64 be2) (.int .i64 ((b : Int) - 1)) w5) := Lib.hid (by
              refine ⟨j + 1, ab2, be2, M5, L5, by omega, rfl, rfl, ?_, ?_⟩
              · have := HBI.out
                rw [show (fw k : Int) - 1 - ((j + 1 : Nat) : Int) = (b : Int) - 1 by omega]
              · refine ((f5.cong (G := beF k nx hm (j + 1)) (RPH.out.b0 hhb)).mono (c' := c + (j + 1) * 50000) (by omega)).sub (fun z hz => ?_)
                rcases List.mem_cons.1 hz with rfl | hz
                · exact .head _
                · rcases List.mem_cons.1 hz with rfl | hz
                  · exact .tail _ (.tail _ (.head _))
                  · exact .tail _ (.tail _ (.tail _ (.tail _ (.tail _ (.tail _ hz))))))
            clear h5 f5 H4
            go_wp2_with fail
            go_roundg (fw k - (j + 1))
            case measure => have := HJ.out; omega
            case rel => exact JN.out
          · rw [hlb] at l1
            rw [hhb] at l2
            go_wp2_with fail
            refine VB.out.mono ?_
            rintro e w' ⟨rfl, rfl⟩
            go_wp2_with fail
            refine (VarQ H1.out.rep H1.out.qk hv (by omega)).mono ?_
            intro e w2 h2
            obtain ⟨x, M2, L2, rfl, hx0, f2⟩ := H1.out.step h2
            have H2 := Lib.hid f2
            clear h2 f2 H1 VB
            go_wp2_with fail
            refine (AndQ H2.out.rep H2.out.qk (f := x) (g := ab) (F := fun a => a v) (G := abF k nx lo j) (.head _) (.tail _ (.tail _ (.head _))) (s := 100) RPH.out.and1 (by omega)).mono ?_
            intro e w3 h3
            obtain ⟨ab2, M3, L3, rfl, hx3, f3⟩ := H2.out.step h3
            have H3 := Lib.hid (f3.cong (G := abF k nx lo (j + 1)) (RPH.out.a1 hlb))
            clear h3 f3 H2
            go_wp2_with fail
            refine (NotQ H3.out.rep H3.out.qk (f := x) (F := fun a => a v) (.tail _ (.head _)) (s := 2) (PSt.var 220 v hv) (by omega)).mono ?_
            intro e w4 h4
            obtain ⟨y, M4, L4, rfl, hx4, f4⟩ := H3.out.step h4
            have H4 := Lib.hid f4
            clear h4 f4 H3
            go_wp2_with fail
            refine (OrQ H4.out.rep H4.out.qk (f := y) (g := be) (F := fun a => !a v) (G := beF k nx hm j) (.head _) (.tail _ (.tail _ (.tail _ (.head _)))) (s := 100) RPH.out.or2 (by omega)).mono ?_
            intro e w5 h5
            obtain ⟨be2, M5, L5, rfl, hx5, f5⟩ := H4.out.step h5
            have JN : Hid (RngR w p L c B k nx lo hm (fw k - (j + 1)) (.int .i64 ab2) (.int .i64 be2) (.int .i64 ((b : Int) - 1)) w5) := Lib.hid (by
              refine ⟨j + 1, ab2, be2, M5, L5, by omega, rfl, rfl, ?_, ?_⟩
              · have := HBI.out
                rw [show (fw k : Int) - 1 - ((j + 1 : Nat) : Int) = (b : Int) - 1 by omega]
              · refine ((f5.cong (G := beF k nx hm (j + 1)) (RPH.out.b1 hhb)).mono (c' := c + (j + 1) * 50000) (by omega)).sub (fun z hz => ?_)
                rcases List.mem_cons.1 hz with rfl | hz
                · exact .head _
                · rcases List.mem_cons.1 hz with rfl | hz
                  · exact .tail _ (.tail _ (.head _))
                  · exact .tail _ (.tail _ (.tail _ (.tail _ (.tail _ (.tail _ hz))))))
            clear h5 f5 H4
            go_wp2_with fail
            go_roundg (fw k - (j + 1))
            case measure => have := HJ.out; omega
            case rel => exact JN.out
        · obtain rfl : j = fw k := by omega
          have hbi : (fw k : Int) - 1 - (fw k : Int) = -1 := by omega
          rw [hbi]
          have H1 := Lib.hid h
          clear h hj hbi hlt
          go_wp2_with fail
          refine (AndQ H1.out.rep H1.out.qk (f := ab) (g := be) (F := abF k nx lo (fw k)) (G := beF k nx hm (fw k)) (.tail _ (.head _)) (.head _) (s := 10000) ST.out (by omega)).mono ?_
          intro e w9 h9
          obtain ⟨r9, M9, L9, rfl, hr9, f9⟩ := H1.out.step h9
          have FIN : Hid (OpQ p 220 (c + 10000000) L w (rgF k nx lo _) B (.returned (.int .i64 r9)) w9) := Lib.hid
            ((f9.cong EQ.out).ret (.head _) (fun x hx => .tail _ (.tail _ (.tail _ hx))) (by omega))
          clear h9 f9
          go_wp2_with fail
          go_ret
          exact FIN.out
    · have hx2 : hm ≤ mo := by omega
      go_enter Tryd.func30, Tryd.ntmps30
      go_wp2_with fail
      refine (W.out _ H0.out.gl).mono ?_
      rintro e w' ⟨rfl, rfl⟩
      clear W H0
      go_wp2_with fail
      rw [hmost]
      clear hmost
      go_loopg [13, 14, 15] (fw k) (fun gk s13 s14 s15 wr => RngR w p L c B k nx lo hm gk s13 s14 s15 wr)
      case atStart => exact J0.out
      case round =>
        clear J0
        obtain ⟨j, ab, be, M1, L1, hj, rfl, rfl, rfl, h⟩ := hrel
        have HJ := Lib.hid hj
        by_cases hlt : j < fw k
        · obtain ⟨b, hb⟩ : ∃ b : Nat, b = fw k - 1 - j := ⟨_, rfl⟩
          have hbi : (fw k : Int) - 1 - (j : Int) = (b : Int) := by omega
          have rp := RP.out j hlt
          rw [← hb] at rp
          have VB := Lib.hid (V.out wr h.gl b (by omega))
          have hkk : fw k - 1 - b = j := by omega
          have l1 : (bits BinOp.and IntKind.u32 ((lo : Int) / 2 ^ (fw k - 1 - b)) 1 == 1) = lo.testBit j := by rw [hkk]; exact bit_u32 hlo
          have l2 : (bits BinOp.and IntKind.u32 ((hm : Int) / 2 ^ (fw k - 1 - b)) 1 == 1) = hm.testBit j := by rw [hkk]; exact bit_u32 hh32
          have hb0 : (0 : Int) ≤ (b : Int) := by omega
          have hbw : (b : Int) + 1 ≤ (fw k : Int) := by omega
          rw [hbi]
          have RPH := Lib.hid rp
          have H1 := Lib.hid h
          have hv := rp.v220
          have HKK := Lib.hid hkk
          have HBI := Lib.hid hbi
          clear hb hbi h rp hj hkk
          generalize fvar k b nx = v at *
          have hcc : c + j * 50000 + 50000 ≤ 500002000000 := by have := hlt; omega
          cases hlb : lo.testBit j <;> cases hhb : hm.testBit j
          · rw [hlb] at l1
            rw [hhb] at l2
            go_wp2_with fail
            refine VB.out.mono ?_
            rintro e w' ⟨rfl, rfl⟩
            go_wp2_with fail
            refine (VarQ H1.out.rep H1.out.qk hv (by omega)).mono ?_
            intro e w2 h2
            obtain ⟨x, M2, L2, rfl, hx0, f2⟩ := H1.out.step h2
            have H2 := Lib.hid f2
            clear h2 f2 H1 VB
            go_wp2_with fail
            refine (OrQ H2.out.rep H2.out.qk (f := x) (g := ab) (F := fun a => a v) (G := abF k nx lo j) (.head _) (.tail _ (.tail _ (.head _))) (s := 100) RPH.out.or1 (by omega)).mono ?_
            intro e w3 h3
            obtain ⟨ab2, M3, L3, rfl, hx3, f3⟩ := H2.out.step h3
            have H3 := Lib.hid (f3.cong (G := abF k nx lo (j + 1)) (RPH.out.a0 hlb))
            clear h3 f3 H2
            go_wp2_with fail
            refine (NotQ H3.out.rep H3.out.qk (f := x) (F := fun a => a v) (.tail _ (.head _)) (s := 2) (PSt.var 220 v hv) (by omega)).mono ?_
            intro e w4 h4
            obtain ⟨y, M4, L4, rfl, hx4, f4⟩ := H3.out.step h4
            have H4 := Lib.hid f4
            clear h4 f4 H3
            go_wp2_with fail
            refine (AndQ H4.out.rep H4.out.qk (f := y) (g := be) (F := fun a => !a v) (G := beF k nx hm j) (.head _) (.tail _ (.tail _ (.tail _ (.head _)))) (s := 100) RPH.out.and2 (by omega)).mono ?_
            intro e w5 h5
            obtain ⟨be2, M5, L5, rfl, hx5, f5⟩ := H4.out.step h5
            have JN : Hid (RngR w p L c B k nx lo hm (fw k - (j + 1)) (.int .i64 ab2) (.int .i64 be2) (.int .i64 ((b : Int) - 1)) w5) := Lib.hid (by
              refine ⟨j + 1, ab2, be2, M5, L5, by omega, rfl, rfl, ?_, ?_⟩
              · have := HBI.out
                rw [show (fw k : Int) - 1 - ((j + 1 : Nat) : Int) = (b : Int) - 1 by omega]
              · refine ((f5.cong (G := beF k nx hm (j + 1)) (RPH.out.b0 hhb)).mono (c' := c + (j + 1) * 50000) (by omega)).sub (fun z hz => ?_)
                rcases List.mem_cons.1 hz with rfl | hz
                · exact .head _
                · rcases List.mem_cons.1 hz with rfl | hz
                  · exact .tail _ (.tail _ (.head _))
                  · exact .tail _ (.tail _ (.tail _ (.tail _ (.tail _ (.tail _ hz))))))
            clear h5 f5 H4
            go_wp2_with fail
            go_roundg (fw k - (j + 1))
            case measure => have := HJ.out; omega
            case rel => exact JN.out
          · rw [hlb] at l1
            rw [hhb] at l2
            go_wp2_with fail
            refine VB.out.mono ?_
            rintro e w' ⟨rfl, rfl⟩
            go_wp2_with fail
            refine (VarQ H1.out.rep H1.out.qk hv (by omega)).mono ?_
            intro e w2 h2
            obtain ⟨x, M2, L2, rfl, hx0, f2⟩ := H1.out.step h2
            have H2 := Lib.hid f2
            clear h2 f2 H1 VB
            go_wp2_with fail
            refine (OrQ H2.out.rep H2.out.qk (f := x) (g := ab) (F := fun a => a v) (G := abF k nx lo j) (.head _) (.tail _ (.tail _ (.head _))) (s := 100) RPH.out.or1 (by omega)).mono ?_
            intro e w3 h3
            obtain ⟨ab2, M3, L3, rfl, hx3, f3⟩ := H2.out.step h3
            have H3 := Lib.hid (f3.cong (G := abF k nx lo (j + 1)) (RPH.out.a0 hlb))
            clear h3 f3 H2
            go_wp2_with fail
            refine (NotQ H3.out.rep H3.out.qk (f := x) (F := fun a => a v) (.tail _ (.head _)) (s := 2) (PSt.var 220 v hv) (by omega)).mono ?_
            intro e w4 h4
            obtain ⟨y, M4, L4, rfl, hx4, f4⟩ := H3.out.step h4
            have H4 := Lib.hid f4
            clear h4 f4 H3
            go_wp2_with fail
            refine (OrQ H4.out.rep H4.out.qk (f := y) (g := be) (F := fun a => !a v) (G := beF k nx hm j) (.head _) (.tail _ (.tail _ (.tail _ (.head _)))) (s := 100) RPH.out.or2 (by omega)).mono ?_
            intro e w5 h5
            obtain ⟨be2, M5, L5, rfl, hx5, f5⟩ := H4.out.step h5
            have JN : Hid (RngR w p L c B k nx lo hm (fw k - (j + 1)) (.int .i64 ab2) (.int .i64 be2) (.int .i64 ((b : Int) - 1)) w5) := Lib.hid (by
              refine ⟨j + 1, ab2, be2, M5, L5, by omega, rfl, rfl, ?_, ?_⟩
              · have := HBI.out
                rw [show (fw k : Int) - 1 - ((j + 1 : Nat) : Int) = (b : Int) - 1 by omega]
              · refine ((f5.cong (G := beF k nx hm (j + 1)) (RPH.out.b1 hhb)).mono (c' := c + (j + 1) * 50000) (by omega)).sub (fun z hz => ?_)
                rcases List.mem_cons.1 hz with rfl | hz
                · exact .head _
                · rcases List.mem_cons.1 hz with rfl | hz
                  · exact .tail _ (.tail _ (.head _))
                  · exact .tail _ (.tail _ (.tail _ (.tail _ (.tail _ (.tail _ hz))))))
            clear h5 f5 H4
            go_wp2_with fail
            go_roundg (fw k - (j + 1))
            case measure => have := HJ.out; omega
            case rel => exact JN.out
          · rw [hlb] at l1
            rw [hhb] at l2
            go_wp2_with fail
            refine VB.out.mono ?_
            rintro e w' ⟨rfl, rfl⟩
            go_wp2_with fail
            refine (VarQ H1.out.rep H1.out.qk hv (by omega)).mono ?_
            intro e w2 h2
            obtain ⟨x, M2, L2, rfl, hx0, f2⟩ := H1.out.step h2
            have H2 := Lib.hid f2
            clear h2 f2 H1 VB
            go_wp2_with fail
            refine (AndQ H2.out.rep H2.out.qk (f := x) (g := ab) (F := fun a => a v) (G := abF k nx lo j) (.head _) (.tail _ (.tail _ (.head _))) (s := 100) RPH.out.and1 (by omega)).mono ?_
            intro e w3 h3
            obtain ⟨ab2, M3, L3, rfl, hx3, f3⟩ := H2.out.step h3
            have H3 := Lib.hid (f3.cong (G := abF k nx lo (j + 1)) (RPH.out.a1 hlb))
            clear h3 f3 H2
            go_wp2_with fail
            refine (NotQ H3.out.rep H3.out.qk (f := x) (F := fun a => a v) (.tail _ (.head _)) (s := 2) (PSt.var 220 v hv) (by omega)).mono ?_
            intro e w4 h4
            obtain ⟨y, M4, L4, rfl, hx4, f4⟩ := H3.out.step h4
            have H4 := Lib.hid f4
            clear h4 f4 H3
            go_wp2_with fail
            refine (AndQ H4.out.rep H4.out.qk (f := y) (g := be) (F := fun a => !a v) (G := beF k nx hm j) (.head _) (.tail _ (.tail _ (.tail _ (.head _)))) (s := 100) RPH.out.and2 (by omega)).mono ?_
            intro e w5 h5
            obtain ⟨be2, M5, L5, rfl, hx5, f5⟩ := H4.out.step h5
            have JN : Hid (RngR w p L c B k nx lo hm (fw k - (j + 1)) (.int .i64 ab2) (.int .i64 be2) (.int .i64 ((b : Int) - 1)) w5) := Lib.hid (by
              refine ⟨j + 1, ab2, be2, M5, L5, by omega, rfl, rfl, ?_, ?_⟩
              · have := HBI.out
                rw [show (fw k : Int) - 1 - ((j + 1 : Nat) : Int) = (b : Int) - 1 by omega]
              · refine ((f5.cong (G := beF k nx hm (j + 1)) (RPH.out.b0 hhb)).mono (c' := c + (j + 1) * 50000) (by omega)).sub (fun z hz => ?_)
                rcases List.mem_cons.1 hz with rfl | hz
                · exact .head _
                · rcases List.mem_cons.1 hz with rfl | hz
                  · exact .tail _ (.tail _ (.head _))
                  · exact .tail _ (.tail _ (.tail _ (.tail _ (.tail _ (.tail _ hz))))))
            clear h5 f5 H4
            go_wp2_with fail
            go_roundg (fw k - (j + 1))
            case measure => have := HJ.out; omega
            case rel => exact JN.out
          · rw [hlb] at l1
            rw [hhb] at l2
            go_wp2_with fail
            refine VB.out.mono ?_
            rintro e w' ⟨rfl, rfl⟩
            go_wp2_with fail
            refine (VarQ H1.out.rep H1.out.qk hv (by omega)).mono ?_
            intro e w2 h2
            obtain ⟨x, M2, L2, rfl, hx0, f2⟩ := H1.out.step h2
            have H2 := Lib.hid f2
            clear h2 f2 H1 VB
            go_wp2_with fail
            refine (AndQ H2.out.rep H2.out.qk (f := x) (g := ab) (F := fun a => a v) (G := abF k nx lo j) (.head _) (.tail _ (.tail _ (.head _))) (s := 100) RPH.out.and1 (by omega)).mono ?_
            intro e w3 h3
            obtain ⟨ab2, M3, L3, rfl, hx3, f3⟩ := H2.out.step h3
            have H3 := Lib.hid (f3.cong (G := abF k nx lo (j + 1)) (RPH.out.a1 hlb))
            clear h3 f3 H2
            go_wp2_with fail
            refine (NotQ H3.out.rep H3.out.qk (f := x) (F := fun a => a v) (.tail _ (.head _)) (s := 2) (PSt.var 220 v hv) (by omega)).mono ?_
            intro e w4 h4
            obtain ⟨y, M4, L4, rfl, hx4, f4⟩ := H3.out.step h4
            have H4 := Lib.hid f4
            clear h4 f4 H3
            go_wp2_with fail
            refine (OrQ H4.out.rep H4.out.qk (f := y) (g := be) (F := fun a => !a v) (G := beF k nx hm j) (.head _) (.tail _ (.tail _ (.tail _ (.head _)))) (s := 100) RPH.out.or2 (by omega)).mono ?_
            intro e w5 h5
            obtain ⟨be2, M5, L5, rfl, hx5, f5⟩ := H4.out.step h5
            have JN : Hid (RngR w p L c B k nx lo hm (fw k - (j + 1)) (.int .i64 ab2) (.int .i64 be2) (.int .i64 ((b : Int) - 1)) w5) := Lib.hid (by
              refine ⟨j + 1, ab2, be2, M5, L5, by omega, rfl, rfl, ?_, ?_⟩
              · have := HBI.out
                rw [show (fw k : Int) - 1 - ((j + 1 : Nat) : Int) = (b : Int) - 1 by omega]
              · refine ((f5.cong (G := beF k nx hm (j + 1)) (RPH.out.b1 hhb)).mono (c' := c + (j + 1) * 50000) (by omega)).sub (fun z hz => ?_)
                rcases List.mem_cons.1 hz with rfl | hz
                · exact .head _
                · rcases List.mem_cons.1 hz with rfl | hz
                  · exact .tail _ (.tail _ (.head _))
                  · exact .tail _ (.tail _ (.tail _ (.tail _ (.tail _ (.tail _ hz))))))
            clear h5 f5 H4
            go_wp2_with fail
            go_roundg (fw k - (j + 1))
            case measure => have := HJ.out; omega
            case rel => exact JN.out
        · obtain rfl : j = fw k := by omega
          have hbi : (fw k : Int) - 1 - (fw k : Int) = -1 := by omega
          rw [hbi]
          have H1 := Lib.hid h
          clear h hj hbi hlt
          go_wp2_with fail
          refine (AndQ H1.out.rep H1.out.qk (f := ab) (g := be) (F := abF k nx lo (fw k)) (G := beF k nx hm (fw k)) (.tail _ (.head _)) (.head _) (s := 10000) ST.out (by omega)).mono ?_
          intro e w9 h9
          obtain ⟨r9, M9, L9, rfl, hr9, f9⟩ := H1.out.step h9
          have FIN : Hid (OpQ p 220 (c + 10000000) L w (rgF k nx lo _) B (.returned (.int .i64 r9)) w9) := Lib.hid
            ((f9.cong EQ.out).ret (.head _) (fun x hx => .tail _ (.tail _ (.tail _ hx))) (by omega))
          clear h9 f9
          go_wp2_with fail
          go_ret
          exact FIN.out

end Go.Proofs.YtgglkldoclejaaaDoor
