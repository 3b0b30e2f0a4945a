/-
  Walks: the law HeaderWildcards.
-/
import Derived.Test.YtgglkldoclejaaaDoorHwm
import Derived.Deep.RegionHeld3
namespace Go.Proofs.YtgglkldoclejaaaDoor
open Go.RowKit

/-- A wildcard and two packets in memory behind the law's arguments. -/
structure Two3 (w : World) (ad ma : Nat) (p q : Pkt) (x : World) : Prop where
  t : Two2 w (w.heap.size + 1) (w.heap.size + 2) p q x
  bx : x.heap[w.heap.size]? = some (.cells #[.int .u32 (ad : Int), .int .u32 (ma : Int)] 52 (0, 0))
section
variable {w : World} {ad ma : Nat} {p q : Pkt} {x y : World}
theorem Two3.gl (t : Two3 w ad ma p q x) : Gl x := t.t.gl
theorem Two3.kp (t : Two3 w ad ma p q x) : Kp No w x := t.t.kp
theorem Two3.pa (t : Two3 w ad ma p q x) : PkAt x (w.heap.size + 1) p := t.t.pa
theorem Two3.pb (t : Two3 w ad ma p q x) : PkAt x (w.heap.size + 2) q := t.t.pb
theorem Two3.no (t : Two3 w ad ma p q x) (k : Kp No x y) : Two3 w ad ma p q y := ⟨t.t.no k, by rw [k.block _ (heap_lt t.bx) (fun h => h)]; exact t.bx⟩
theorem Two3.mgr {A : Nat → Prop} {N : Nat} (t : Two3 w ad ma p q x) (k : Kp A x y) (hA : ∀ b, A b → N ≤ b) (h1 : w.heap.size + 2 < N) : Two3 w ad ma p q y :=
  ⟨t.t.mgr k hA (by omega) (by omega) (by omega), by rw [k.block _ (heap_lt t.bx) (fun h => by have := hA _ h; omega)]; exact t.bx⟩
theorem Two3.set (t : Two3 w ad ma p q x) (n : Nat) : Two3 w n ma p q (x.setCell ⟨w.heap.size, 0, none⟩ (.int .u32 (n : Int))) := by
  have k := Kp.setCell (w := x) ⟨w.heap.size, 0, none⟩ (.int .u32 (n : Int))
  refine ⟨⟨t.kp.trans (A' := fun b => b = w.heap.size) (fun b e => .inr (by omega)) (k.mono (fun _ _ e => e)), t.gl.kp k (fun e => by have := t.t.glw.lt; have : 0 = w.heap.size := e; omega), t.pa.kp k (fun e => by have : w.heap.size + 1 = w.heap.size := e; omega), t.pb.kp k (fun e => by have : w.heap.size + 2 = w.heap.size := e; omega), t.t.glw⟩, ?_⟩
  rw [setCell_heap t.bx]; rfl
theorem Two3.c (t : Two3 w ad ma p q x) : x.cell? ⟨w.heap.size, 0, none⟩ = some (.int .u32 (ad : Int)) ∧ x.cell? ⟨w.heap.size, 1, none⟩ = some (.int .u32 (ma : Int)) ∧ ∀ i, x.frozen? ⟨w.heap.size, i, none⟩ = false :=
  ⟨by rw [cell_of_row _ _ _ _ _ _ t.bx]; rfl, by rw [cell_of_row _ _ _ _ _ _ t.bx]; rfl, fun i => by simp [World.frozen?, t.bx]⟩
theorem Two3.new (g : Gl w) (ad ma : Nat) (p q : Pkt) : Two3 w ad ma p q (((w.alloc (.cells #[.int .u32 (ad : Int), .int .u32 (ma : Int)] 52)).alloc (.cells #[.int .u32 (p.src : Int), .int .u32 (p.dst : Int), .int .i64 p.proto, .int .i64 p.sport, .int .i64 p.dport] 29)).alloc (.cells #[.int .u32 (q.src : Int), .int .u32 (q.dst : Int), .int .i64 q.proto, .int .i64 q.sport, .int .i64 q.dport] 29)) := by
  have k1 : Kp No w (w.alloc (.cells #[.int .u32 (ad : Int), .int .u32 (ma : Int)] 52)) := Kp.alloc _
  have hb := heap_alloc_new w (.cells #[.int .u32 (ad : Int), .int .u32 (ma : Int)] 52)
  have h2 := Two2.new2 (g.no k1) p q
  have hs : (w.alloc (.cells #[.int .u32 (ad : Int), .int .u32 (ma : Int)] 52)).heap.size = w.heap.size + 1 := by simp
  refine ⟨⟨k1.trans_no h2.kp, h2.gl, ?_, ?_, g⟩, ?_⟩
  · have := h2.pa; rw [hs] at this; exact this
  · have := h2.pb; rw [hs] at this; exact this
  · rw [h2.kp.block _ (heap_lt hb) (fun h => h)]; exact hb
end

def CntR (w7 : World) (ma gk : Nat) (s14 s15 : Value) (wr : World) : Prop := ∃ i, i + gk = 32 ∧ s14 = .int .i64 (cz ma i : Int) ∧ s15 = .int .i64 (i : Int) ∧ w7 = wr

set_option maxRecDepth 100000 in
theorem Wild_bad (x : Int) (hx : ¬ (x = 0 ∨ x = 1)) (p : Nat) (nx : Bool) (ad ma : Int) (w : World) : Calls Tryd.prog 35 #[ptr p, .int .i64 x, .bool nx, .agg #[.int .u32 ad, .int .u32 ma]] w fun e w' => e = .returned (.int .i64 (-1)) ∧ Kp No w w' := by
  have h0 : (x == 0) = false := by simp; omega
  have h1 : (x == 1) = false := by simp; omega
  have h0' : (x != 0) = true := by simp; omega
  have h1' : (x != 1) = true := by simp; omega
  clear hx
  go_enter Tryd.func35, Tryd.ntmps35
  go_wp2_with fail
  go_ret
  exact ⟨rfl, Kp.alloc _⟩

set_option maxRecDepth 100000 in
set_option maxHeartbeats 4000000 in
theorem HeaderWildcards_walk (x : Int) (nx : Bool) (ad ma : Nat) (p q : Pkt) (hma : ma < 4294967296) (hp : p.in32) (hq : q.in32) {w : World} (g : Gl w) :
    Calls Tryd.prog 8 #[.int .i64 x, .bool nx, .agg #[.int .u32 (ad : Int), .int .u32 (ma : Int)], pktV p, pktV q] w fun e w' => e = .returned (.bool true) ∧ Kp No w w' := by
  have T0 := Lib.hid (Two3.new g ad ma p q)
  clear g
  have AW := Lib.hid (fun (y : World) (h : Gl y) => hawake_ok h)
  have VP := Lib.hid (fun (y : World) => ValidPacket_ok p y)
  have VQ := Lib.hid (fun (y : World) => ValidPacket_ok q y)
  cases hvp : vpB p
  · rw [hvp] at VP
    clear hvp
    unfold pktV at VP VQ ⊢
    go_enter Tryd.func8, Tryd.ntmps8
    go_wp2_with fail
    refine (AW.out _ T0.out.gl).mono ?_
    rintro e w1 ⟨rfl, k1⟩
    have T1 := Lib.hid (T0.out.no k1)
    clear k1 T0
    obtain ⟨c0, c1, c2, c3, c4⟩ := T1.out.pa
    go_wp2_with fail
    refine (VP.out _).mono ?_
    rintro e w2 ⟨rfl, k2⟩
    have T2 := Lib.hid (T1.out.no k2)
    clear k2 T1 c0 c1 c2 c3 c4
    go_wp2_with fail
    go_ret
    exact ⟨rfl, T2.out.kp⟩
  rw [hvp] at VP
  have hpo := vpB_true hp hvp
  cases hvq : vpB q
  · rw [hvq] at VQ
    clear hvq hvp hpo
    unfold pktV at VP VQ ⊢
    go_enter Tryd.func8, Tryd.ntmps8
    go_wp2_with fail
    refine (AW.out _ T0.out.gl).mono ?_
    rintro e w1 ⟨rfl, k1⟩
    have T1 := Lib.hid (T0.out.no k1)
    clear k1 T0
    obtain ⟨c0, c1, c2, c3, c4⟩ := T1.out.pa
    go_wp2_with fail
    refine (VP.out _).mono ?_
    rintro e w2 ⟨rfl, k2⟩
    have T2 := Lib.hid (T1.out.no k2)
    clear k2 T1 c0 c1 c2 c3 c4
    obtain ⟨d0, d1, d2, d3, d4⟩ := T2.out.pb
    go_wp2_with fail
    refine (VQ.out _).mono ?_
    rintro e w3 ⟨rfl, k3⟩
    have T3 := Lib.hid (T2.out.no k3)
    clear k3 T2 d0 d1 d2 d3 d4
    go_wp2_with fail
    go_ret
    exact ⟨rfl, T3.out.kp⟩
  rw [hvq] at VQ
  have hqo := vpB_true hq hvq
  have NEW := Lib.hid (fun (y : World) => HNew_ok y)
  clear hvp hvq
  have hba := bits_andn ad ma
  have hanl := andn_lt ad ma
  have ANB := Lib.hid (fun (i : Nat) (hi : i < 32) => andn_bit ad ma hi)
  generalize andn ad ma = an at *
  by_cases hx : x = 0 ∨ x = 1
  · obtain ⟨k, rfl⟩ : ∃ k : Nat, x = (k : Int) := ⟨x.toNat, by omega⟩
    have hk : k < 2 := by omega
    have hk5 : k < 5 := by omega
    have hf32 : fw k = 32 := by rcases (show k = 0 ∨ k = 1 by omega) with rfl | rfl <;> rfl
    have FP := Lib.hid (fun (y : World) => Field_ok p k hk5 y)
    have FQ := Lib.hid (fun (y : World) => Field_ok q k hk5 y)
    have PR := Lib.hid (fun (y : World) (h : Gl y) => pair_ok p q hp hq h)
    have SZE := Lib.hid (fun (c : Nat) (B : List (Int × Bfn)) (r : Int) (M : Mgr) (nx : Bool) (qq : Qk 220 c M B) (h : (r, wiF k nx an ma (fw k)) ∈ B) => wild_size hk5 qq h)
    have HK := Lib.hid hk
    obtain ⟨z, hz⟩ : ∃ z, (if nx then q else p).f k = z := ⟨_, rfl⟩
    have hz32 : z < 4294967296 := by rw [← hz]; cases nx <;> simp [hp.f hk5, hq.f hk5]
    have hzb := bits_andn z ma
    obtain ⟨bb, hbb⟩ : ∃ bb, ((andn z ma : Int) == (an : Int)) = bb := ⟨_, rfl⟩
    have EV : Hid (wiF k nx an ma (fw k) (asg (gL (encF (fun _ => false) p q))) = bb) := Lib.hid (by
      rw [Bool.eq_iff_iff, wild_enc (fun _ => false) p q hk5 nx an ma, ← hbb, hz, hf32, beq_iff_eq]
      constructor
      · intro h
        have : andn z ma = an := eq_of_bits (andn_lt _ _) hanl (fun i hi => by
          rw [andn_bit z ma hi]
          cases hm : ma.testBit i
          · rw [h i hi hm]; simp
          · rw [ANB.out i hi, hm]; simp)
        rw [this]
      · intro h i hi hm
        have h' : andn z ma = an := by omega
        have := andn_bit z ma hi
        rw [h', hm] at this
        rw [this]; simp)
    rw [hf32] at EV SZE
    have hz0 : ¬ ((k : Int) ≠ 0 ∧ (k : Int) ≠ 1) := by omega
    generalize andn z ma = zn at *
    unfold pktV at VP VQ FP FQ PR ⊢
    clear hx hk hk5 hf32
    rcases (show k = 0 ∨ k = 1 by have := HK.out; omega) with rfl | rfl
    all_goals
      cases nx
      · simp only [Bool.false_eq_true, if_false] at hz
        rw [hz] at FP
        clear hz
        go_enter Tryd.func8, Tryd.ntmps8
        go_wp2_with fail
        refine (AW.out _ T0.out.gl).mono ?_
        rintro e w1 ⟨rfl, k1⟩
        have T1 := Lib.hid (T0.out.no k1)
        clear k1 T0
        obtain ⟨c0, c1, c2, c3, c4⟩ := T1.out.pa
        go_wp2_with fail
        refine (VP.out _).mono ?_
        rintro e w2 ⟨rfl, k2⟩
        have T2 := Lib.hid (T1.out.no k2)
        clear k2 T1 c0 c1 c2 c3 c4
        obtain ⟨d0, d1, d2, d3, d4⟩ := T2.out.pb
        go_wp2_with fail
        refine (VQ.out _).mono ?_
        rintro e w3 ⟨rfl, k3⟩
        have T3 := Lib.hid (T2.out.no k3)
        clear k3 T2 d0 d1 d2 d3 d4
        go_wp2_with fail
        refine (NEW.out _).mono ?_
        rintro e w4 ⟨pm, L4, rfl, R4, k4, o4⟩
        have T4 := Lib.hid (T3.out.no k4)
        have H4 := Lib.hid (hf_new T3.out.gl (Kp.refl No w3) R4 k4 o4)
        have O4 : Hid (∀ x, L4.at pm x → w.heap.size ≤ x) := Lib.hid (fun x hx => by have := o4 x hx; have := T3.out.kp.size; omega)
        have B4 : Hid (∀ x, L4.at pm x → w3.heap.size ≤ x) := Lib.hid o4
        clear R4 k4 o4 NEW
        obtain ⟨c0, c1, z0⟩ := T4.out.c
        have T5 := Lib.hid (T4.out.set an)
        have B4' : Hid (∀ b, L4.at pm b → w.heap.size + 2 < b) := Lib.hid (fun b hb => by have := B4.out b hb; have := T3.out.pb.lt; omega)
        have H5 : Hid (Hf (w4.setCell ⟨w.heap.size, 0, none⟩ (.int .u32 (an : Int))) pm L4 220 2 (w4.setCell ⟨w.heap.size, 0, none⟩ (.int .u32 (an : Int))) (Mgr.new 220) L4 []) := Lib.hid (Hf.start (H4.out.rep.kp (Kp.setCell _ _) (fun b e hx => by have := B4'.out b hx; have : b = w.heap.size := e; omega)) (Qk.new 220) T5.out.gl H4.out.off)
        go_wp2_with fail
        obtain ⟨d0, d1, _⟩ := T5.out.c
        clear c0 c1 z0 H4
        generalize w4.setCell ⟨w.heap.size, 0, none⟩ (.int .u32 (an : Int)) = w5 at *
        refine Calls.mono (Wild_ok _ HK.out false an ma hanl hma H5.out.rep H5.out.qk H5.out.gl H5.out.off (by omega)) ?_
        intro e w6 h6
        obtain ⟨r, M6, L6, rfl, hr, f6⟩ := H5.out.step h6
        have H6 := Lib.hid f6
        have T6 := Lib.hid (T5.out.mgr f6.sd.kp (fun b hb => B4'.out b hb) (by omega))
        clear h6 f6 d0 d1 T5 H5
        obtain ⟨c0, c1, c2, c3, c4⟩ := T6.out.pa
        go_wp2_with fail
        refine (FP.out _).mono ?_
        rintro e w7 ⟨rfl, k7⟩
        have T7 := Lib.hid (T6.out.no k7)
        have H7 := Lib.hid (H6.out.no k7)
        clear k7 c0 c1 c2 c3 c4 T6 H6
        go_wp2_with fail
        go_loopg [14, 15] 32 (fun gk s14 s15 wr => CntR w7 ma gk s14 s15 wr)
        case atStart => exact ⟨0, by omega, rfl, rfl, rfl⟩
        case round =>
          obtain ⟨i, hi, rfl, rfl, rfl⟩ := hrel
          obtain ⟨c0, c1, _⟩ := T7.out.c
          have hcz := cz_le ma i
          by_cases hlt : i < 32
          · have hm : (bits BinOp.and IntKind.u32 ((ma : Int) / 2 ^ i) 1 == 0) = !ma.testBit i := bit_u32_zero hma
            have hlti : (i : Int) < 32 := by omega
            have HI := Lib.hid hi
            cases hb : ma.testBit i
            · rw [hb] at hm
              have JN : Hid (CntR w7 ma (32 - (i + 1)) (.int .i64 ((cz ma i : Int) + 1)) (.int .i64 ((i + 1 : Nat) : Int)) w7) := Lib.hid ⟨i + 1, by omega, by simp only [cz, hb]; rfl, rfl, rfl⟩
              clear hi hb
              generalize cz ma i = n at *
              go_wp2_with fail
              go_roundg (32 - (i + 1))
              case measure => have := HI.out; omega
              case rel => exact JN.out
            · rw [hb] at hm
              have JN : Hid (CntR w7 ma (32 - (i + 1)) (.int .i64 (cz ma i : Int)) (.int .i64 ((i + 1 : Nat) : Int)) w7) := Lib.hid ⟨i + 1, by omega, by simp only [cz, hb]; rfl, rfl, rfl⟩
              clear hi hb
              generalize cz ma i = n at *
              go_wp2_with fail
              go_roundg (32 - (i + 1))
              case measure => have := HI.out; omega
              case rel => exact JN.out
          · obtain rfl : i = 32 := by omega
            have hlti : ¬ ((32 : Nat) : Int) < 32 := by omega
            clear c0 c1 hi hlt
            have TD := Lib.hid (T7.out.no Kp.drew)
            have HD := Lib.hid (H7.out.no Kp.drew)
            have VAL := Lib.hid (ValidQ HD.out.rep HD.out.qk (.head _))
            have PRD := Lib.hid (PR.out _ TD.out.gl)
            have CK : Hid (∀ y, Two3 w an ma p q y → y.cell? ⟨w.heap.size, 0, none⟩ = some (.int .u32 (an : Int)) ∧ y.cell? ⟨w.heap.size, 1, none⟩ = some (.int .u32 (ma : Int)) ∧
              y.cell? ⟨w.heap.size + 1, 0, none⟩ = some (.int .u32 (p.src : Int)) ∧ y.cell? ⟨w.heap.size + 1, 1, none⟩ = some (.int .u32 (p.dst : Int)) ∧ y.cell? ⟨w.heap.size + 1, 2, none⟩ = some (.int .i64 p.proto) ∧ y.cell? ⟨w.heap.size + 1, 3, none⟩ = some (.int .i64 p.sport) ∧ y.cell? ⟨w.heap.size + 1, 4, none⟩ = some (.int .i64 p.dport) ∧
              y.cell? ⟨w.heap.size + 2, 0, none⟩ = some (.int .u32 (q.src : Int)) ∧ y.cell? ⟨w.heap.size + 2, 1, none⟩ = some (.int .u32 (q.dst : Int)) ∧ y.cell? ⟨w.heap.size + 2, 2, none⟩ = some (.int .i64 q.proto) ∧ y.cell? ⟨w.heap.size + 2, 3, none⟩ = some (.int .i64 q.sport) ∧ y.cell? ⟨w.heap.size + 2, 4, none⟩ = some (.int .i64 q.dport)) := Lib.hid (fun y t => ⟨t.c.1, t.c.2.1, t.pa.c0, t.pa.c1, t.pa.c2, t.pa.c3, t.pa.c4, t.pb.c0, t.pb.c1, t.pb.c2, t.pb.c3, t.pb.c4⟩)
            have S0 := Lib.hid (CK.out _ TD.out)
            have EVQ : Hid (∀ (y : World) (ga : Nat) (b : Nat), Kp No w7.drew y → y.ownsRow b 4 1 (.slice (some ⟨ga, 0, none⟩) 220 220) 220 (boolRow (encF (fun _ => false) p q)) → Calls Tryd.prog 32 #[ptr pm, .int .i64 r, .slice (some ⟨ga, 0, none⟩) 220 220] y fun e w' => e = .returned (.bool bb) ∧ Kp No y w') := Lib.hid (fun y ga b k row => by
              have := EvalQ (HD.out.rep.no k) HD.out.qk (.head _) (bools_row row)
              rw [EV.out] at this
              exact this)
            have SZ : Hid (∀ y, Kp No w7.drew y → Calls Tryd.prog 36 #[ptr pm, .int .i64 r] y fun e w' => e = .returned (.int .i64 (cz ma 32 : Int)) ∧ Kp No y w') := Lib.hid (fun y k => by
              have := Size_ok r (HD.out.rep.no k)
              rw [show M6.sizeM r = cz ma 32 from SZE.out _ _ _ _ _ HD.out.qk (.head _)] at this
              exact this)
            generalize cz ma 32 = n at *
            go_upto_region 19 with (fail)
            go_region_held3 (fun y => y.cell? ⟨w.heap.size, 0, none⟩ = some (.int .u32 (an : Int)) ∧ y.cell? ⟨w.heap.size, 1, none⟩ = some (.int .u32 (ma : Int)) ∧
              y.cell? ⟨w.heap.size + 1, 0, none⟩ = some (.int .u32 (p.src : Int)) ∧ y.cell? ⟨w.heap.size + 1, 1, none⟩ = some (.int .u32 (p.dst : Int)) ∧ y.cell? ⟨w.heap.size + 1, 2, none⟩ = some (.int .i64 p.proto) ∧ y.cell? ⟨w.heap.size + 1, 3, none⟩ = some (.int .i64 p.sport) ∧ y.cell? ⟨w.heap.size + 1, 4, none⟩ = some (.int .i64 p.dport) ∧
              y.cell? ⟨w.heap.size + 2, 0, none⟩ = some (.int .u32 (q.src : Int)) ∧ y.cell? ⟨w.heap.size + 2, 1, none⟩ = some (.int .u32 (q.dst : Int)) ∧ y.cell? ⟨w.heap.size + 2, 2, none⟩ = some (.int .i64 q.proto) ∧ y.cell? ⟨w.heap.size + 2, 3, none⟩ = some (.int .i64 q.sport) ∧ y.cell? ⟨w.heap.size + 2, 4, none⟩ = some (.int .i64 q.dport)) (first | exact S0.out | exact SA.out | exact SB.out | exact SC.out)
              (first | (go_at_call 31; (with_reducible refine VAL.out.mono ?_); rintro e wv ⟨rfl, rfl⟩) | (go_at_call 33; (with_reducible refine PRD.out.mono ?_); rintro e wa ⟨ga, rfl, row, ka⟩; have KA := Lib.hid ka; have SA := Lib.hid (CK.out _ (TD.out.no ka)); have CA := Lib.hid (EVQ.out _ _ _ ka row); clear ka row) | (go_at_call 32; (with_reducible refine CA.out.mono ?_); rintro e wb ⟨rfl, kb⟩; have KB := Lib.hid (KA.out.trans_no kb); have SB := Lib.hid (CK.out _ (TD.out.no KB.out)); have CB := Lib.hid (SZ.out _ KB.out); clear kb) | (go_at_call 36; (with_reducible refine CB.out.mono ?_); rintro e wc ⟨rfl, kc⟩; have KC := Lib.hid (KB.out.trans_no kc); have SC := Lib.hid (CK.out _ (TD.out.no KC.out)); clear kc))
            all_goals
              go_wp2_with fail
              go_ret
              exact ⟨by simp, TD.out.kp.trans_no KC.out⟩
      · simp only [if_true] at hz
        rw [hz] at FQ
        clear hz
        go_enter Tryd.func8, Tryd.ntmps8
        go_wp2_with fail
        refine (AW.out _ T0.out.gl).mono ?_
        rintro e w1 ⟨rfl, k1⟩
        have T1 := Lib.hid (T0.out.no k1)
        clear k1 T0
        obtain ⟨c0, c1, c2, c3, c4⟩ := T1.out.pa
        go_wp2_with fail
        refine (VP.out _).mono ?_
        rintro e w2 ⟨rfl, k2⟩
        have T2 := Lib.hid (T1.out.no k2)
        clear k2 T1 c0 c1 c2 c3 c4
        obtain ⟨d0, d1, d2, d3, d4⟩ := T2.out.pb
        go_wp2_with fail
        refine (VQ.out _).mono ?_
        rintro e w3 ⟨rfl, k3⟩
        have T3 := Lib.hid (T2.out.no k3)
        clear k3 T2 d0 d1 d2 d3 d4
        go_wp2_with fail
        refine (NEW.out _).mono ?_
        rintro e w4 ⟨pm, L4, rfl, R4, k4, o4⟩
        have T4 := Lib.hid (T3.out.no k4)
        have H4 := Lib.hid (hf_new T3.out.gl (Kp.refl No w3) R4 k4 o4)
        have O4 : Hid (∀ x, L4.at pm x → w.heap.size ≤ x) := Lib.hid (fun x hx => by have := o4 x hx; have := T3.out.kp.size; omega)
        have B4 : Hid (∀ x, L4.at pm x → w3.heap.size ≤ x) := Lib.hid o4
        clear R4 k4 o4 NEW
        obtain ⟨c0, c1, z0⟩ := T4.out.c
        have T5 := Lib.hid (T4.out.set an)
        have B4' : Hid (∀ b, L4.at pm b → w.heap.size + 2 < b) := Lib.hid (fun b hb => by have := B4.out b hb; have := T3.out.pb.lt; omega)
        have H5 : Hid (Hf (w4.setCell ⟨w.heap.size, 0, none⟩ (.int .u32 (an : Int))) pm L4 220 2 (w4.setCell ⟨w.heap.size, 0, none⟩ (.int .u32 (an : Int))) (Mgr.new 220) L4 []) := Lib.hid (Hf.start (H4.out.rep.kp (Kp.setCell _ _) (fun b e hx => by have := B4'.out b hx; have : b = w.heap.size := e; omega)) (Qk.new 220) T5.out.gl H4.out.off)
        go_wp2_with fail
        obtain ⟨d0, d1, _⟩ := T5.out.c
        clear c0 c1 z0 H4
        generalize w4.setCell ⟨w.heap.size, 0, none⟩ (.int .u32 (an : Int)) = w5 at *
        refine Calls.mono (Wild_ok _ HK.out true an ma hanl hma H5.out.rep H5.out.qk H5.out.gl H5.out.off (by omega)) ?_
        intro e w6 h6
        obtain ⟨r, M6, L6, rfl, hr, f6⟩ := H5.out.step h6
        have H6 := Lib.hid f6
        have T6 := Lib.hid (T5.out.mgr f6.sd.kp (fun b hb => B4'.out b hb) (by omega))
        clear h6 f6 d0 d1 T5 H5
        obtain ⟨c0, c1, c2, c3, c4⟩ := T6.out.pa
        go_wp2_with fail
        refine (FP.out _).mono ?_
        rintro e w7 ⟨rfl, k7⟩
        have T7 := Lib.hid (T6.out.no k7)
        have H7 := Lib.hid (H6.out.no k7)
        clear k7 c0 c1 c2 c3 c4 T6 H6
        obtain ⟨d0, d1, d2, d3, d4⟩ := T7.out.pb
        go_wp2_with fail
        refine (FQ.out _).mono ?_
        rintro e w7 ⟨rfl, k7⟩
        have T7 := Lib.hid (T7.out.no k7)
        have H7 := Lib.hid (H7.out.no k7)
        clear k7 d0 d1 d2 d3 d4
        go_wp2_with fail
        go_loopg [14, 15] 32 (fun gk s14 s15 wr => CntR w7 ma gk s14 s15 wr)
        case atStart => exact ⟨0, by omega, rfl, rfl, rfl⟩
        case round =>
          obtain ⟨i, hi, rfl, rfl, rfl⟩ := hrel
          obtain ⟨c0, c1, _⟩ := T7.out.c
          have hcz := cz_le ma i
          by_cases hlt : i < 32
          · have hm : (bits BinOp.and IntKind.u32 ((ma : Int) / 2 ^ i) 1 == 0) = !ma.testBit i := bit_u32_zero hma
            have hlti : (i : Int) < 32 := by omega
            have HI := Lib.hid hi
            cases hb : ma.testBit i
            · rw [hb] at hm
              have JN : Hid (CntR w7 ma (32 - (i + 1)) (.int .i64 ((cz ma i : Int) + 1)) (.int .i64 ((i + 1 : Nat) : Int)) w7) := Lib.hid ⟨i + 1, by omega, by simp only [cz, hb]; rfl, rfl, rfl⟩
              clear hi hb
              generalize cz ma i = n at *
              go_wp2_with fail
              go_roundg (32 - (i + 1))
              case measure => have := HI.out; omega
              case rel => exact JN.out
            · rw [hb] at hm
              have JN : Hid (CntR w7 ma (32 - (i + 1)) (.int .i64 (cz ma i : Int)) (.int .i64 ((i + 1 : Nat) : Int)) w7) := Lib.hid ⟨i + 1, by omega, by simp only [cz, hb]; rfl, rfl, rfl⟩
              clear hi hb
              generalize cz ma i = n at *
              go_wp2_with fail
              go_roundg (32 - (i + 1))
              case measure => have := HI.out; omega
              case rel => exact JN.out
          · obtain rfl : i = 32 := by omega
            have hlti : ¬ ((32 : Nat) : Int) < 32 := by omega
            clear c0 c1 hi hlt
            have TD := Lib.hid (T7.out.no Kp.drew)
            have HD := Lib.hid (H7.out.no Kp.drew)
            have VAL := Lib.hid (ValidQ HD.out.rep HD.out.qk (.head _))
            have PRD := Lib.hid (PR.out _ TD.out.gl)
            have CK : Hid (∀ y, Two3 w an ma p q y → y.cell? ⟨w.heap.size, 0, none⟩ = some (.int .u32 (an : Int)) ∧ y.cell? ⟨w.heap.size, 1, none⟩ = some (.int .u32 (ma : Int)) ∧
              y.cell? ⟨w.heap.size + 1, 0, none⟩ = some (.int .u32 (p.src : Int)) ∧ y.cell? ⟨w.heap.size + 1, 1, none⟩ = some (.int .u32 (p.dst : Int)) ∧ y.cell? ⟨w.heap.size + 1, 2, none⟩ = some (.int .i64 p.proto) ∧ y.cell? ⟨w.heap.size + 1, 3, none⟩ = some (.int .i64 p.sport) ∧ y.cell? ⟨w.heap.size + 1, 4, none⟩ = some (.int .i64 p.dport) ∧
              y.cell? ⟨w.heap.size + 2, 0, none⟩ = some (.int .u32 (q.src : Int)) ∧ y.cell? ⟨w.heap.size + 2, 1, none⟩ = some (.int .u32 (q.dst : Int)) ∧ y.cell? ⟨w.heap.size + 2, 2, none⟩ = some (.int .i64 q.proto) ∧ y.cell? ⟨w.heap.size + 2, 3, none⟩ = some (.int .i64 q.sport) ∧ y.cell? ⟨w.heap.size + 2, 4, none⟩ = some (.int .i64 q.dport)) := Lib.hid (fun y t => ⟨t.c.1, t.c.2.1, t.pa.c0, t.pa.c1, t.pa.c2, t.pa.c3, t.pa.c4, t.pb.c0, t.pb.c1, t.pb.c2, t.pb.c3, t.pb.c4⟩)
            have S0 := Lib.hid (CK.out _ TD.out)
            have EVQ : Hid (∀ (y : World) (ga : Nat) (b : Nat), Kp No w7.drew y → y.ownsRow b 4 1 (.slice (some ⟨ga, 0, none⟩) 220 220) 220 (boolRow (encF (fun _ => false) p q)) → Calls Tryd.prog 32 #[ptr pm, .int .i64 r, .slice (some ⟨ga, 0, none⟩) 220 220] y fun e w' => e = .returned (.bool bb) ∧ Kp No y w') := Lib.hid (fun y ga b k row => by
              have := EvalQ (HD.out.rep.no k) HD.out.qk (.head _) (bools_row row)
              rw [EV.out] at this
              exact this)
            have SZ : Hid (∀ y, Kp No w7.drew y → Calls Tryd.prog 36 #[ptr pm, .int .i64 r] y fun e w' => e = .returned (.int .i64 (cz ma 32 : Int)) ∧ Kp No y w') := Lib.hid (fun y k => by
              have := Size_ok r (HD.out.rep.no k)
              rw [show M6.sizeM r = cz ma 32 from SZE.out _ _ _ _ _ HD.out.qk (.head _)] at this
              exact this)
            generalize cz ma 32 = n at *
            go_upto_region 19 with (fail)
            go_region_held3 (fun y => y.cell? ⟨w.heap.size, 0, none⟩ = some (.int .u32 (an : Int)) ∧ y.cell? ⟨w.heap.size, 1, none⟩ = some (.int .u32 (ma : Int)) ∧
              y.cell? ⟨w.heap.size + 1, 0, none⟩ = some (.int .u32 (p.src : Int)) ∧ y.cell? ⟨w.heap.size + 1, 1, none⟩ = some (.int .u32 (p.dst : Int)) ∧ y.cell? ⟨w.heap.size + 1, 2, none⟩ = some (.int .i64 p.proto) ∧ y.cell? ⟨w.heap.size + 1, 3, none⟩ = some (.int .i64 p.sport) ∧ y.cell? ⟨w.heap.size + 1, 4, none⟩ = some (.int .i64 p.dport) ∧
              y.cell? ⟨w.heap.size + 2, 0, none⟩ = some (.int .u32 (q.src : Int)) ∧ y.cell? ⟨w.heap.size + 2, 1, none⟩ = some (.int .u32 (q.dst : Int)) ∧ y.cell? ⟨w.heap.size + 2, 2, none⟩ = some (.int .i64 q.proto) ∧ y.cell? ⟨w.heap.size + 2, 3, none⟩ = some (.int .i64 q.sport) ∧ y.cell? ⟨w.heap.size + 2, 4, none⟩ = some (.int .i64 q.dport)) (first | exact S0.out | exact SA.out | exact SB.out | exact SC.out)
              (first | (go_at_call 31; (with_reducible refine VAL.out.mono ?_); rintro e wv ⟨rfl, rfl⟩) | (go_at_call 33; (with_reducible refine PRD.out.mono ?_); rintro e wa ⟨ga, rfl, row, ka⟩; have KA := Lib.hid ka; have SA := Lib.hid (CK.out _ (TD.out.no ka)); have CA := Lib.hid (EVQ.out _ _ _ ka row); clear ka row) | (go_at_call 32; (with_reducible refine CA.out.mono ?_); rintro e wb ⟨rfl, kb⟩; have KB := Lib.hid (KA.out.trans_no kb); have SB := Lib.hid (CK.out _ (TD.out.no KB.out)); have CB := Lib.hid (SZ.out _ KB.out); clear kb) | (go_at_call 36; (with_reducible refine CB.out.mono ?_); rintro e wc ⟨rfl, kc⟩; have KC := Lib.hid (KB.out.trans_no kc); have SC := Lib.hid (CK.out _ (TD.out.no KC.out)); clear kc))
            all_goals
              go_wp2_with fail
              go_ret
              exact ⟨by simp, TD.out.kp.trans_no KC.out⟩
  · have h0' : (x != 0) = true := by simp; omega
    have h1' : (x != 1) = true := by simp; omega
    unfold pktV at VP VQ ⊢
    go_enter Tryd.func8, Tryd.ntmps8
    go_wp2_with fail
    refine (AW.out _ T0.out.gl).mono ?_
    rintro e w1 ⟨rfl, k1⟩
    have T1 := Lib.hid (T0.out.no k1)
    clear k1 T0
    obtain ⟨c0, c1, c2, c3, c4⟩ := T1.out.pa
    go_wp2_with fail
    refine (VP.out _).mono ?_
    rintro e w2 ⟨rfl, k2⟩
    have T2 := Lib.hid (T1.out.no k2)
    clear k2 T1 c0 c1 c2 c3 c4
    obtain ⟨d0, d1, d2, d3, d4⟩ := T2.out.pb
    go_wp2_with fail
    refine (VQ.out _).mono ?_
    rintro e w3 ⟨rfl, k3⟩
    have T3 := Lib.hid (T2.out.no k3)
    clear k3 T2 d0 d1 d2 d3 d4
    go_wp2_with fail
    refine (NEW.out _).mono ?_
    rintro e w4 ⟨pm, L4, rfl, R4, k4, o4⟩
    have T4 := Lib.hid (T3.out.no k4)
    have H4 := Lib.hid (hf_new T3.out.gl (Kp.refl No w3) R4 k4 o4)
    have O4 : Hid (∀ x, L4.at pm x → w.heap.size ≤ x) := Lib.hid (fun x hx => by have := o4 x hx; have := T3.out.kp.size; omega)
    have B4 : Hid (∀ x, L4.at pm x → w3.heap.size ≤ x) := Lib.hid o4
    clear R4 k4 o4 NEW
    obtain ⟨c0, c1, z0⟩ := T4.out.c
    have T5 := Lib.hid (T4.out.set an)
    have B4' : Hid (∀ b, L4.at pm b → w.heap.size + 2 < b) := Lib.hid (fun b hb => by have := B4.out b hb; have := T3.out.pb.lt; omega)
    have H5 : Hid (Hf (w4.setCell ⟨w.heap.size, 0, none⟩ (.int .u32 (an : Int))) pm L4 220 2 (w4.setCell ⟨w.heap.size, 0, none⟩ (.int .u32 (an : Int))) (Mgr.new 220) L4 []) := Lib.hid (Hf.start (H4.out.rep.kp (Kp.setCell _ _) (fun b e hx => by have := B4'.out b hx; have : b = w.heap.size := e; omega)) (Qk.new 220) T5.out.gl H4.out.off)
    have WB := Lib.hid (Wild_bad x hx pm nx (an : Int) (ma : Int) (w4.setCell ⟨w.heap.size, 0, none⟩ (.int .u32 (an : Int))))
    clear hx
    go_wp2_with fail
    refine WB.out.mono ?_
    rintro e w6 ⟨rfl, k6⟩
    have T6 := Lib.hid (T5.out.no k6)
    clear k6
    go_wp2_with fail
    go_ret
    exact ⟨rfl, T6.out.kp⟩

end Go.Proofs.YtgglkldoclejaaaDoor
