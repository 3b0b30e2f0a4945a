/-
  Walks: 'Wildcard' of the package header.
-/
import Derived.Test.YtgglkldoclejaaaDoorHl
namespace Go.Proofs.YtgglkldoclejaaaDoor
open Go.RowKit

/-- What was done ahead of a call of the manager's changed nothing. -/
theorem OpQ.before {p n c : Nat} {L : Lay} {w wA : World} {F : Bfn} {B : List (Int × Bfn)} {e : Ending} {w' : World} (k : Kp No w wA) (h : OpQ p n c L wA F B e w') : OpQ p n c L w F B e w' := by
  obtain ⟨r, M', ⟨L', he, rr, kk, f⟩, q, h0⟩ := h
  exact ⟨r, M', ⟨L', he, rr, k.no_trans kk, fun x hx => by
    rcases f x hx with h1 | h1
    · exact .inl h1
    · exact .inr (Nat.le_trans k.size h1)⟩, q, h0⟩

theorem bit_zero {k : IntKind} {j : Nat} (hj : j ≤ k.bits) (hj1 : 1 ≤ j) (hk : ∀ n : Int, 0 ≤ n → n < 2 ^ j → k.wrap n = n) {x s : Nat} (hx : x < 2 ^ j) : (bits BinOp.and k ((x : Int) / 2 ^ s) 1 == 0) = !x.testBit s := by
  have h : (x : Int) / 2 ^ s = ((x / 2 ^ s : Nat) : Int) := by simp
  have hlt : x / 2 ^ s < 2 ^ j := Nat.lt_of_le_of_lt (Nat.div_le_self _ _) hx
  have := bits_mask k j hj hk 1 hj1 ((x / 2 ^ s : Nat) : Int) (Int.natCast_nonneg _) (by exact_mod_cast hlt)
  rw [h, show (1 : Int) = 2 ^ 1 - 1 from rfl, this, Nat.testBit_eq_decide_div_mod_eq]
  generalize x / 2 ^ s = y
  rw [Bool.eq_iff_iff]
  simp
  omega
theorem bit_u32_zero {x s : Nat} (hx : x < 4294967296) : (bits BinOp.and IntKind.u32 ((x : Int) / 2 ^ s) 1 == 0) = !x.testBit s :=
  bit_zero (j := 32) (by decide) (by omega) (fun n a b => by rw [IntKind.wrap_u32]; omega) hx

def WldR (w0 : World) (p : Nat) (L0 : Lay) (c : Nat) (B : List (Int × Bfn)) (k : Nat) (nx : Bool) (ad ma : Nat) (gk : Nat) (s9 s10 : Value) (wr : World) : Prop :=
  ∃ j f M L, j + gk = 32 ∧ s9 = .int .i64 f ∧ s10 = .int .i64 (31 - (j : Int)) ∧ Hf w0 p L0 220 (c + j * 50000) wr M L ((f, wiF k nx ad ma j) :: B)

structure WldP (k : Nat) (nx : Bool) (ad ma j v : Nat) : Prop where
  v220 : v < 220
  and1 : PSt 220 (fun a => a v && wiF k nx ad ma j a) 100
  and0 : PSt 220 (fun a => !a v && wiF k nx ad ma j a) 100
  skip : ma.testBit j = true → ∀ a, wiF k nx ad ma j a = wiF k nx ad ma (j + 1) a
  a1 : ma.testBit j = false → ad.testBit j = true → ∀ a, (a v && wiF k nx ad ma j a) = wiF k nx ad ma (j + 1) a
  a0 : ma.testBit j = false → ad.testBit j = false → ∀ a, (!a v && wiF k nx ad ma j a) = wiF k nx ad ma (j + 1) a
theorem wldP {k : Nat} {nx : Bool} {ad ma j : Nat} (hk : k < 5) (hj : j < fw k) : WldP k nx ad ma j (fvar k (fw k - 1 - j) nx) := by
  have hw := fw_le k
  have ra := wiF_rd (k := k) (nx := nx) ad ma j (by omega)
  have sa := wiF_st (nx := nx) hk ad ma j (by omega)
  refine ⟨fvar_lt hk (by omega) nx, ((and_bit hk hj ra sa false).congr (fun a => by rw [Bool.xor_false]; rfl)).mono (by omega), ((and_bit hk hj ra sa true).congr (fun a => by rw [Bool.xor_true]; rfl)).mono (by omega), ?_, ?_, ?_⟩
  · intro h a; show _ = wildB _ _ _ _; simp only [wildB, h, if_true]; rfl
  · intro h h2 a; show _ = wildB _ _ _ _; simp only [wildB, h, h2, Bool.false_eq_true, if_false]
    show (a _ && _) = ((a _ == true) && _); rw [beq_true]; rfl
  · intro h h2 a; show _ = wildB _ _ _ _; simp only [wildB, h, h2, Bool.false_eq_true, if_false]
    show (!a _ && _) = ((a _ == false) && _); rw [beq_false]; rfl

set_option maxRecDepth 100000 in
set_option maxHeartbeats 4000000 in
theorem Wild_ok {p c : Nat} {M : Mgr} {L : Lay} {B : List (Int × Bfn)} (k : Nat) (hk : k < 2) (nx : Bool) (ad ma : Nat) (had : ad < 4294967296) (hma : ma < 4294967296) {w : World} (R : Rep w p M L) (q : Qk 220 c M B) (g : Gl w) (ho : ¬ L.at p 0) (hc : c ≤ 500000000000) :
    Calls Tryd.prog 35 #[ptr p, .int .i64 (k : Int), .bool nx, .agg #[.int .u32 (ad : Int), .int .u32 (ma : Int)]] w (OpQ p 220 (c + 10000000) L w (wiF k nx ad ma 32) B) := by
  have hk5 : k < 5 := by omega
  have hf32 : fw k = 32 := by rcases (show k = 0 ∨ k = 1 by omega) with rfl | rfl <;> rfl
  have hboxL : ¬ L.at p w.heap.size := fun h => by have := R.lt _ h; omega
  have H0 := Lib.hid (Hf.start (R.no (Kp.alloc (.cells #[.int .u32 (ad : Int), .int .u32 (ma : Int)] 52))) q (g.no (Kp.alloc (.cells #[.int .u32 (ad : Int), .int .u32 (ma : Int)] 52))) ho)
  have BX : Hid ((w.alloc (.cells #[.int .u32 (ad : Int), .int .u32 (ma : Int)] 52)).heap[w.heap.size]? = some (.cells #[.int .u32 (ad : Int), .int .u32 (ma : Int)] 52 (0, 0))) := Lib.hid (heap_alloc_new _ _)
  have KA : Hid (Kp No w (w.alloc (.cells #[.int .u32 (ad : Int), .int .u32 (ma : Int)] 52))) := Lib.hid (Kp.alloc _)
  have W := Lib.hid (fun (x : World) (h : Gl x) => Width_in k hk5 h)
  have V := Lib.hid (fun (x : World) (h : Gl x) (b : Nat) (hb : b < fw k) => HVar_in k b nx hk5 hb h)
  have RP := Lib.hid (fun (j : Nat) (hj : j < fw k) => wldP (k := k) (nx := nx) (ad := ad) (ma := ma) hk5 hj)
  rw [hf32] at W V RP
  have J0 : Hid (WldR (w.alloc (.cells #[.int .u32 (ad : Int), .int .u32 (ma : Int)] 52)) p L c B k nx ad ma 32 (.int .i64 1) (.int .i64 31) (w.alloc (.cells #[.int .u32 (ad : Int), .int .u32 (ma : Int)] 52))) := Lib.hid (by
    refine ⟨0, 1, M, L, by omega, rfl, rfl, ?_⟩
    have h := H0.out.consts
    rw [Nat.zero_mul, Nat.add_zero]
    exact h.sub (fun x hx => by
      rcases List.mem_cons.1 hx with rfl | hx
      · exact .tail _ (.head _)
      · exact .tail _ (.tail _ hx)))
  have HBL := Lib.hid hboxL
  clear R q g ho hf32 hboxL
  rcases (show k = 0 ∨ k = 1 by omega) with rfl | rfl
  all_goals
    go_enter Tryd.func35, Tryd.ntmps35
    go_wp2_with fail
    refine (W.out _ H0.out.gl).mono ?_
    rintro e w' ⟨rfl, rfl⟩
    clear H0
    go_wp2_with fail
    generalize w.alloc (.cells #[.int .u32 (ad : Int), .int .u32 (ma : Int)] 52) = wA at *
    go_loopg [9, 10] 32 (fun gk s9 s10 wr => WldR wA p L c B _ nx ad ma gk s9 s10 wr)
    case atStart => exact J0.out
    case round =>
      clear J0
      obtain ⟨j, f, M1, L1, hj, rfl, rfl, h⟩ := hrel
      have HJ := Lib.hid hj
      by_cases hlt : j < 32
      · obtain ⟨b, hb⟩ : ∃ b : Nat, b = 32 - 1 - j := ⟨_, rfl⟩
        have hbi : (31 : Int) - (j : Int) = (b : Int) := by omega
        have rp := RP.out j hlt
        have VB := Lib.hid (V.out wr h.gl b (by omega))
        have WB := Lib.hid (W.out wr h.gl)
        have hkk : 31 - b = j := by omega
        have bx := BX.out
        rw [← h.sd.kp.block _ (heap_lt bx) HBL.out] at bx
        have c0 : wr.cell? ⟨w.heap.size, 0, none⟩ = some (.int .u32 (ad : Int)) := by rw [cell_of_row _ _ _ _ _ _ bx]; rfl
        have c1 : wr.cell? ⟨w.heap.size, 1, none⟩ = some (.int .u32 (ma : Int)) := by rw [cell_of_row _ _ _ _ _ _ bx]; rfl
        have l1 : (bits BinOp.and IntKind.u32 ((ma : Int) / 2 ^ (31 - b)) 1 == 1) = ma.testBit j := by rw [hkk]; exact bit_u32 hma
        have l2 : (bits BinOp.and IntKind.u32 ((ad : Int) / 2 ^ (31 - b)) 1 == 0) = !ad.testBit j := by rw [hkk]; exact bit_u32_zero had
        have hb0 : (0 : Int) ≤ (b : Int) := by omega
        have hbw : (b : Int) ≤ 31 := by omega
        rw [hbi]
        have RPH := Lib.hid rp
        have hv := rp.v220
        have H1 := Lib.hid h
        have HBI := Lib.hid hbi
        have DBX := Lib.hid (fun (M2 : Mgr) (L2 : Lay) (c2 : Nat) (B2 : List (Int × Bfn)) (y : World) (f2 : Hf wA p L 220 c2 y M2 L2 B2) => (by
          have bx := BX.out
          rw [← f2.sd.kp.block _ (heap_lt bx) HBL.out] at bx
          exact (⟨by rw [cell_of_row _ _ _ _ _ _ bx]; rfl, by rw [cell_of_row _ _ _ _ _ _ bx]; rfl⟩ : y.cell? ⟨w.heap.size, 0, none⟩ = some (.int .u32 (ad : Int)) ∧ y.cell? ⟨w.heap.size, 1, none⟩ = some (.int .u32 (ma : Int)))))
        rw [← hb] at RPH hv
        clear hb hbi h rp hj hkk bx
        generalize fvar _ b nx = v at *
        have hcc : c + j * 50000 + 50000 ≤ 500002000000 := by have := hlt; omega
        cases hmb : ma.testBit j
        · rw [hmb] at l1
          cases hab : ad.testBit j
          · rw [hab] at l2
            go_wp2_with fail
            refine WB.out.mono ?_
            rintro e w' ⟨rfl, rfl⟩
            go_wp2_with fail
            refine VB.out.mono ?_
            rintro e w' ⟨rfl, rfl⟩
            go_wp2_with fail
            refine (VarQ H1.out.rep H1.out.qk hv (by omega)).mono ?_
            intro e w2 h2
            obtain ⟨x, M2, L2, rfl, hx0, f2⟩ := H1.out.step h2
            have H2 := Lib.hid f2
            clear h2 f2 H1 VB c0 c1
            obtain ⟨c0, c1⟩ := DBX.out _ _ _ _ _ H2.out
            go_wp2_with fail
            refine (NotQ H2.out.rep H2.out.qk (f := x) (F := fun a => a v) (.head _) (s := 2) (PSt.var 220 v hv) (by omega)).mono ?_
            intro e w4 h4
            obtain ⟨y, M4, L4, rfl, hx4, f4⟩ := H2.out.step h4
            have H4 := Lib.hid f4
            clear h4 f4 H2 c0 c1
            obtain ⟨c0, c1⟩ := DBX.out _ _ _ _ _ H4.out
            go_wp2_with fail
            refine (AndQ H4.out.rep H4.out.qk (f := y) (g := f) (F := fun a => !a v) (G := wiF _ nx ad ma j) (.head _) (.tail _ (.tail _ (.head _))) (s := 100) RPH.out.and0 (by omega)).mono ?_
            intro e w5 h5
            obtain ⟨f2, M5, L5, rfl, hx5, f5⟩ := H4.out.step h5
            have JN : Hid (WldR wA p L c B _ nx ad ma (32 - (j + 1)) (.int .i64 f2) (.int .i64 ((b : Int) - 1)) w5) := Lib.hid (by
              refine ⟨j + 1, f2, M5, L5, by omega, rfl, ?_, ?_⟩
              · have := HBI.out
                rw [show (31 : Int) - ((j + 1 : Nat) : Int) = (b : Int) - 1 by omega]
              · refine ((f5.cong (RPH.out.a0 hmb hab)).mono (c' := c + (j + 1) * 50000) (by omega)).sub (fun z hz => ?_)
                rcases List.mem_cons.1 hz with rfl | hz
                · exact .head _
                · exact .tail _ (.tail _ (.tail _ (.tail _ hz))))
            clear h5 f5 H4 c0 c1
            go_wp2_with fail
            go_roundg (32 - (j + 1))
            case measure => have := HJ.out; omega
            case rel => exact JN.out
          · rw [hab] at l2
            go_wp2_with fail
            refine WB.out.mono ?_
            rintro e w' ⟨rfl, rfl⟩
            go_wp2_with fail
            refine VB.out.mono ?_
            rintro e w' ⟨rfl, rfl⟩
            go_wp2_with fail
            refine (VarQ H1.out.rep H1.out.qk hv (by omega)).mono ?_
            intro e w2 h2
            obtain ⟨x, M2, L2, rfl, hx0, f2⟩ := H1.out.step h2
            have H2 := Lib.hid f2
            clear h2 f2 H1 VB c0 c1
            obtain ⟨c0, c1⟩ := DBX.out _ _ _ _ _ H2.out
            have H4 := H2
            go_wp2_with fail
            refine (AndQ H4.out.rep H4.out.qk (f := x) (g := f) (F := fun a => a v) (G := wiF _ nx ad ma j) (.head _) (.tail _ (.head _)) (s := 100) RPH.out.and1 (by omega)).mono ?_
            intro e w5 h5
            obtain ⟨f2, M5, L5, rfl, hx5, f5⟩ := H4.out.step h5
            have JN : Hid (WldR wA p L c B _ nx ad ma (32 - (j + 1)) (.int .i64 f2) (.int .i64 ((b : Int) - 1)) w5) := Lib.hid (by
              refine ⟨j + 1, f2, M5, L5, by omega, rfl, ?_, ?_⟩
              · have := HBI.out
                rw [show (31 : Int) - ((j + 1 : Nat) : Int) = (b : Int) - 1 by omega]
              · refine ((f5.cong (RPH.out.a1 hmb hab)).mono (c' := c + (j + 1) * 50000) (by omega)).sub (fun z hz => ?_)
                rcases List.mem_cons.1 hz with rfl | hz
                · exact .head _
                · exact .tail _ (.tail _ (.tail _ hz)))
            clear h5 f5 H4 H2 c0 c1
            go_wp2_with fail
            go_roundg (32 - (j + 1))
            case measure => have := HJ.out; omega
            case rel => exact JN.out
        · rw [hmb] at l1
          have JN : Hid (WldR wA p L c B _ nx ad ma (32 - (j + 1)) (.int .i64 f) (.int .i64 ((b : Int) - 1)) wr) := Lib.hid (by
            refine ⟨j + 1, f, M1, L1, by omega, rfl, ?_, (H1.out.cong (RPH.out.skip hmb)).mono (by omega)⟩
            have := HBI.out
            rw [show (31 : Int) - ((j + 1 : Nat) : Int) = (b : Int) - 1 by omega])
          go_wp2_with fail
          refine WB.out.mono ?_
          rintro e w' ⟨rfl, rfl⟩
          go_wp2_with fail
          go_roundg (32 - (j + 1))
          case measure => have := HJ.out; omega
          case rel => exact JN.out
      · obtain rfl : j = 32 := by omega
        have FIN : Hid (OpQ p 220 (c + 10000000) L w (wiF _ nx ad ma 32) B (.returned (.int .i64 f)) wr) := Lib.hid (OpQ.before KA.out (h.ret (.head _) (fun x hx => .tail _ hx) (by omega)))
        clear h hj hlt
        have hbi : (31 : Int) - ((32 : Nat) : Int) = -1 := by omega
        rw [hbi]
        clear hbi
        go_wp2_with fail
        go_ret
        exact FIN.out

end Go.Proofs.YtgglkldoclejaaaDoor
