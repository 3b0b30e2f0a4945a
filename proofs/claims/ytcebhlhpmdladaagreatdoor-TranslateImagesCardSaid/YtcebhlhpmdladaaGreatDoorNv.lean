/-
  Walks: nat.Source (with its pool) and the law's own 'has'.
-/
import Derived.Test.YtcebhlhpmdladaaGreatDoorTn
import Derived.Test.YtcebhlhpmdladaaGreatDoorKw
import Derived.Test.YtcebhlhpmdladaaGreatDoorRep
namespace Go.Proofs.YtcebhlhpmdladaaGreatDoor
open Go.RowKit

theorem bits_xor32 {a b : Nat} (ha : a < 4294967296) (hb : b < 4294967296) : bits BinOp.xor IntKind.u32 (a : Int) (b : Int) = ((a ^^^ b : Nat) : Int) := by
  unfold bits
  simp only [BitVec.ofInt_natCast]
  rw [IntKind.wrap_u32]
  have h : (BitVec.ofNat 32 a ^^^ BitVec.ofNat 32 b).toNat = a ^^^ b := by
    rw [BitVec.toNat_xor, BitVec.toNat_ofNat, BitVec.toNat_ofNat, Nat.mod_eq_of_lt (by omega), Nat.mod_eq_of_lt (by omega)]
  show ((BitVec.ofNat 32 a ^^^ BitVec.ofNat 32 b).toNat : Int) % 4294967296 = _
  rw [h]
  have : a ^^^ b < 2 ^ 32 := Nat.xor_lt_two_pow (by omega) (by omega)
  omega
theorem wm_andn {ad ma z : Nat} : wmB ad ma z = decide (andn (z ^^^ ad) ma = 0) := by
  rw [Bool.eq_iff_iff, wmB_iff, decide_eq_true_eq]
  constructor
  · intro h
    refine eq_of_bits (andn_lt _ _) (by decide) (fun i hi => ?_)
    rw [andn_bit _ _ hi, Nat.testBit_xor, Nat.zero_testBit]
    cases hm : ma.testBit i
    · rw [h i hi hm]; simp
    · simp
  · intro h i hi hm
    have := andn_bit (z ^^^ ad) ma hi
    rw [h, Nat.zero_testBit, Nat.testBit_xor, hm] at this
    cases h1 : z.testBit i <;> cases h2 : ad.testBit i <;> rw [h1, h2] at this <;> first | rfl | cases this
theorem MAddr_ok (ad ma z : Nat) (ha : ad < 4294967296) (hz : z < 4294967296) (w : World) : Calls Tryz.prog 127 #[.agg #[.int .u32 (ad : Int), .int .u32 (ma : Int)], .int .u32 (z : Int)] w fun e w' => e = .returned (.bool (wmB ad ma z)) ∧ Kp No w w' := by
  have hx := bits_xor32 hz ha
  have hn := bits_andn (z ^^^ ad) ma
  rw [wm_andn]
  generalize andn (z ^^^ ad) ma = y at *
  generalize z ^^^ ad = x at *
  by_cases h : y = 0
  · subst h
    go_enter Tryz.func127, Tryz.ntmps127
    go_wp2_with fail
    go_ret
    exact ⟨by simp, Kp.alloc _⟩
  · have h' : ¬ ((y : Int) = 0) := by omega
    have D : Hid (decide (y = 0) = false) := Lib.hid (decide_eq_false h)
    rw [D.out]
    go_enter Tryz.func127, Tryz.ntmps127
    go_wp2_with fail
    go_ret
    exact ⟨by simp [h], Kp.alloc _⟩

/-- The cells of a rule and a packet in their boxes. -/
def RpS (b : Nat) (x : Ru) (p : Pkt) (y : World) : Prop := RuAt y b 0 x ∧ PkAt y (b + 1) p
theorem RpS.new (w : World) (x : Ru) (p : Pkt) : RpS w.heap.size x p ((w.alloc (.cells #[.bool x.pm, .int .i64 x.pr, .int .u32 (x.sa : Int), .int .u32 (x.sm : Int), .int .u32 (x.da : Int), .int .u32 (x.dm : Int), .int .i64 x.sl, .int .i64 x.sh, .int .i64 x.dl, .int .i64 x.dh] 116)).alloc (.cells #[.int .u32 (p.src : Int), .int .u32 (p.dst : Int), .int .i64 p.proto, .int .i64 p.sport, .int .i64 p.dport] 45)) := by
  have h0 := heap_alloc_new w (.cells #[.bool x.pm, .int .i64 x.pr, .int .u32 (x.sa : Int), .int .u32 (x.sm : Int), .int .u32 (x.da : Int), .int .u32 (x.dm : Int), .int .i64 x.sl, .int .i64 x.sh, .int .i64 x.dl, .int .i64 x.dh] 116)
  have hz : (w.alloc (.cells #[.bool x.pm, .int .i64 x.pr, .int .u32 (x.sa : Int), .int .u32 (x.sm : Int), .int .u32 (x.da : Int), .int .u32 (x.dm : Int), .int .i64 x.sl, .int .i64 x.sh, .int .i64 x.dl, .int .i64 x.dh] 116)).heap.size = w.heap.size + 1 := by simp
  generalize w.alloc (.cells #[.bool x.pm, .int .i64 x.pr, .int .u32 (x.sa : Int), .int .u32 (x.sm : Int), .int .u32 (x.da : Int), .int .u32 (x.dm : Int), .int .i64 x.sl, .int .i64 x.sh, .int .i64 x.dl, .int .i64 x.dh] 116) = X at *
  have h1 := PkAt.new X p 45
  rw [hz] at h1
  refine ⟨?_, h1⟩
  have k := Kp.alloc (w := X) (.cells #[.int .u32 (p.src : Int), .int .u32 (p.dst : Int), .int .i64 p.proto, .int .i64 p.sport, .int .i64 p.dport] 45)
  have h2 := (k.block _ (heap_lt h0) (fun h => h)).trans h0
  refine ⟨?_, ?_, ?_, ?_, ?_, ?_, ?_, ?_, ?_, ?_⟩ <;> (rw [cell_of_row _ _ _ _ _ _ h2]; rfl)
theorem RuAt.no {w w' : World} {g o : Nat} {x : Ru} (h : RuAt w g o x) (k : Kp No w w') : RuAt w' g o x :=
  h.of (fun z => by
    have hg : g < w.heap.size := World.block_lt_of_cell? _ _ h.1
    exact k.cell (a := ⟨g, z, none⟩) hg (fun h => h))
theorem RpS.no {b : Nat} {x : Ru} {p : Pkt} {y y' : World} (h : RpS b x p y) (k : Kp No y y') : RpS b x p y' := ⟨h.1.no k, h.2.no k⟩
theorem RpS.c {b : Nat} {x : Ru} {p : Pkt} {y : World} (h : RpS b x p y) : (y.cell? ⟨b, 0, none⟩ = some (.bool x.pm) ∧ y.cell? ⟨b, 1, none⟩ = some (.int .i64 x.pr) ∧ y.cell? ⟨b, 2, none⟩ = some (.int .u32 (x.sa : Int)) ∧ y.cell? ⟨b, 3, none⟩ = some (.int .u32 (x.sm : Int)) ∧ y.cell? ⟨b, 4, none⟩ = some (.int .u32 (x.da : Int)) ∧ y.cell? ⟨b, 5, none⟩ = some (.int .u32 (x.dm : Int)) ∧ y.cell? ⟨b, 6, none⟩ = some (.int .i64 x.sl) ∧ y.cell? ⟨b, 7, none⟩ = some (.int .i64 x.sh) ∧ y.cell? ⟨b, 8, none⟩ = some (.int .i64 x.dl) ∧ y.cell? ⟨b, 9, none⟩ = some (.int .i64 x.dh)) ∧ (y.cell? ⟨b + 1, 0, none⟩ = some (.int .u32 (p.src : Int)) ∧ y.cell? ⟨b + 1, 1, none⟩ = some (.int .u32 (p.dst : Int)) ∧ y.cell? ⟨b + 1, 2, none⟩ = some (.int .i64 p.proto) ∧ y.cell? ⟨b + 1, 3, none⟩ = some (.int .i64 p.sport) ∧ y.cell? ⟨b + 1, 4, none⟩ = some (.int .i64 p.dport)) := by
  obtain ⟨h0, h1⟩ := h
  unfold RuAt at h0
  simp only [Nat.zero_add] at h0
  exact ⟨h0, h1.c0, h1.c1, h1.c2, h1.c3, h1.c4⟩
set_option maxRecDepth 100000 in
set_option maxHeartbeats 2000000 in
theorem Matches_ok (x : Ru) (hx : x.ok) (p : Pkt) (hp : p.in32) (w : World) : Calls Tryz.prog 98 #[.agg x.v, pktV p] w fun e w' => e = .returned (.bool (ruB x p)) ∧ Kp No w w' := by
  have S0 := Lib.hid (RpS.new w x p)
  have K0 : Hid (Kp No w ((w.alloc (.cells #[.bool x.pm, .int .i64 x.pr, .int .u32 (x.sa : Int), .int .u32 (x.sm : Int), .int .u32 (x.da : Int), .int .u32 (x.dm : Int), .int .i64 x.sl, .int .i64 x.sh, .int .i64 x.dl, .int .i64 x.dh] 116)).alloc (.cells #[.int .u32 (p.src : Int), .int .u32 (p.dst : Int), .int .i64 p.proto, .int .i64 p.sport, .int .i64 p.dport] 45))) := Lib.hid ((Kp.alloc _).trans_no (Kp.alloc _))
  have M1 := Lib.hid (fun (y : World) => MAddr_ok x.sa x.sm p.src hx.sa hp.h0 y)
  have M2 := Lib.hid (fun (y : World) => MAddr_ok x.da x.dm p.dst hx.da hp.h1 y)
  have I1 := Lib.hid (fun (y : World) => inRange_ok x.sl x.sh p.sport y)
  have I2 := Lib.hid (fun (y : World) => inRange_ok x.dl x.dh p.dport y)
  obtain ⟨rb, hrb⟩ : ∃ rb, ruB x p = rb := ⟨_, rfl⟩
  rw [hrb]
  unfold ruB at hrb
  generalize wmB x.sa x.sm p.src = b1 at *
  generalize wmB x.da x.dm p.dst = b2 at *
  generalize inB x.sl x.sh p.sport = b3 at *
  generalize inB x.dl x.dh p.dport = b4 at *
  unfold Ru.v pktV
  clear hx hp
  have go : ∀ q : Bool, (decide (x.pr = -1) || decide (x.pr = p.proto)) = q → (q = true → x.pr = -1 ∨ (x.pr ≠ -1 ∧ x.pr = p.proto)) ∧ (q = false → x.pr ≠ -1 ∧ x.pr ≠ p.proto) := fun q h => by
    subst h
    simp
    omega
  obtain ⟨q, hq⟩ : ∃ q, (decide (x.pr = -1) || decide (x.pr = p.proto)) = q := ⟨_, rfl⟩
  obtain ⟨g1, g2⟩ := go q hq
  rw [hq] at hrb
  clear go hq
  cases q
  · obtain ⟨n1, n2⟩ := g2 rfl
    have RB : Hid (rb = false) := Lib.hid (by rw [← hrb]; rfl)
    clear g1 g2 hrb
    go_enter Tryz.func98, Tryz.ntmps98
    go_wp2
    go_ret
    exact ⟨by rw [RB.out]; rfl, K0.out⟩
  have g3 := g1 rfl
  clear g1 g2
  have RB : Hid ((b1 && b2 && b3 && b4) = rb) := Lib.hid (by rw [← hrb, Bool.true_and])
  clear hrb
  have G3 := Lib.hid g3
  clear g3
  go_enter Tryz.func98, Tryz.ntmps98
  go_upto_region 1 with fail
  generalize (w.alloc (.cells #[.bool x.pm, .int .i64 x.pr, .int .u32 (x.sa : Int), .int .u32 (x.sm : Int), .int .u32 (x.da : Int), .int .u32 (x.dm : Int), .int .i64 x.sl, .int .i64 x.sh, .int .i64 x.dl, .int .i64 x.dh] 116)).alloc (.cells #[.int .u32 (p.src : Int), .int .u32 (p.dst : Int), .int .i64 p.proto, .int .i64 p.sport, .int .i64 p.dport] 45) = X at *
  rcases G3.out with n1 | ⟨n1, n2⟩
  all_goals
    obtain ⟨⟨c0, c1, c2, c3, c4, c5, c6, c7, c8, c9⟩, d0, d1, d2, d3, d4⟩ := S0.out.c
    go_wp2_with fail
    refine (M1.out _).mono ?_
    rintro e y1 ⟨rfl, k1⟩
    have S1 := Lib.hid (S0.out.no k1)
    have K1 := Lib.hid (K0.out.trans_no k1)
    clear k1 c0 c1 c2 c3 c4 c5 c6 c7 c8 c9 d0 d1 d2 d3 d4
    obtain ⟨⟨c0, c1, c2, c3, c4, c5, c6, c7, c8, c9⟩, d0, d1, d2, d3, d4⟩ := S1.out.c
    cases b1
    · go_wp2
      go_ret
      exact ⟨by rw [← RB.out]; rfl, K1.out⟩
    go_wp2_with fail
    refine (M2.out _).mono ?_
    rintro e y2 ⟨rfl, k2⟩
    have S2 := Lib.hid (S1.out.no k2)
    have K2 := Lib.hid (K1.out.trans_no k2)
    clear k2 c0 c1 c2 c3 c4 c5 c6 c7 c8 c9 d0 d1 d2 d3 d4
    obtain ⟨⟨c0, c1, c2, c3, c4, c5, c6, c7, c8, c9⟩, d0, d1, d2, d3, d4⟩ := S2.out.c
    cases b2
    · go_wp2
      go_ret
      exact ⟨by rw [← RB.out]; rfl, K2.out⟩
    go_wp2_with fail
    refine (I1.out _).mono ?_
    rintro e y3 ⟨rfl, k3⟩
    have S3 := Lib.hid (S2.out.no k3)
    have K3 := Lib.hid (K2.out.trans_no k3)
    clear k3 c0 c1 c2 c3 c4 c5 c6 c7 c8 c9 d0 d1 d2 d3 d4
    obtain ⟨⟨c0, c1, c2, c3, c4, c5, c6, c7, c8, c9⟩, d0, d1, d2, d3, d4⟩ := S3.out.c
    cases b3
    · go_wp2
      go_ret
      exact ⟨by rw [← RB.out]; rfl, K3.out⟩
    go_wp2_with fail
    refine (I2.out _).mono ?_
    rintro e y4 ⟨rfl, k4⟩
    have K4 := Lib.hid (K3.out.trans_no k4)
    clear k4 c0 c1 c2 c3 c4 c5 c6 c7 c8 c9 d0 d1 d2 d3 d4
    go_wp2
    go_ret
    exact ⟨by rw [← RB.out]; simp, K4.out⟩

/-- The first rule that matches, or -1. -/
def FiI (rs : List Ru) (p : Pkt) (i : Int) : Prop := (∃ (k : Nat) (hk : k < rs.length), i = (k : Int) ∧ ruB rs[k] p = true ∧ aclB rs p = (rs[k]).pm) ∨ (i = -1 ∧ aclB rs p = false)
theorem acl_skip (p : Pkt) : ∀ (rs : List Ru) (k : Nat), k ≤ rs.length → (∀ j (hj : j < rs.length), j < k → ruB rs[j] p = false) → aclB rs p = aclB (rs.drop k) p
  | _, 0, _, _ => rfl
  | [], k + 1, h, _ => by simp at h
  | x :: l, k + 1, h, hn => by
    have h0 := hn 0 (by simp) (by omega)
    show (if ruB x p = true then x.pm else aclB l p) = aclB (l.drop k) p
    rw [if_neg (by rw [show ruB x p = false from h0]; decide)]
    exact acl_skip p l k (by simpa using h) (fun j hj hjk => hn (j + 1) (by simpa using hj) (by omega))
def RusAt (w : World) (bo : Option Addr) (rs : List Ru) : Prop := rs.length = 0 ∨ ∃ b ob, bo = some ⟨b, ob, none⟩ ∧ b < w.heap.size ∧ ∀ i y, rs[i]? = some y → RuAt w b (ob + i * 10) y
theorem RusAt.no {w w' : World} {bo : Option Addr} {rs : List Ru} (h : RusAt w bo rs) (k : Kp No w w') : RusAt w' bo rs := by
  rcases h with h | ⟨b, ob, e, hb, hc⟩
  · exact .inl h
  · exact .inr ⟨b, ob, e, Nat.lt_of_lt_of_le hb k.size, fun i y hi => (hc i y hi).no k⟩
def FiJ (X : World) (rs : List Ru) (p : Pkt) (gk : Nat) (s : Value) (x : World) : Prop := ∃ k : Nat, k + gk = rs.length ∧ s = .int .i64 (k : Int) ∧ Kp No X x ∧ ∀ j (hj : j < rs.length), j < k → ruB rs[j] p = false
set_option maxRecDepth 100000 in
set_option maxHeartbeats 2000000 in
theorem First_ok (nm : ByteArray) (bo : Option Addr) (bc : Nat) (rs : List Ru) (p : Pkt) (hp : p.in32) (hrs : ∀ x, x ∈ rs → x.ok) (hl : rs.length ≤ 9223372036854775807) (w : World) (hr : RusAt w bo rs) : Calls Tryz.prog 61 #[.agg #[.string nm, .slice bo rs.length bc], pktV p] w fun e w' => ∃ i : Int, e = .returned (.int .i64 i) ∧ Kp No w w' ∧ FiI rs p i := by
  have h0 := heap_alloc_new w (.cells #[.string nm, .slice bo rs.length bc] 73)
  have k0 : Kp No w (w.alloc (.cells #[.string nm, .slice bo rs.length bc] 73)) := Kp.alloc _
  have z0 : (w.alloc (.cells #[.string nm, .slice bo rs.length bc] 73)).heap.size = w.heap.size + 1 := by simp
  have MT := Lib.hid (fun (x : Ru) (h : x.ok) (y : World) => Matches_ok x h p hp y)
  have HRS := Lib.hid hrs
  have hli : (rs.length : Int) ≤ 9223372036854775807 := by omega
  clear hrs hl hp
  unfold pktV at *
  go_enter Tryz.func61, Tryz.ntmps61
  go_upto_region 1 with fail
  generalize w.alloc (.cells #[.string nm, .slice bo rs.length bc] 73) = X0 at *
  have h1 := PkAt.new X0 p 45
  have k1 := Kp.alloc (w := X0) (.cells #[.int .u32 (p.src : Int), .int .u32 (p.dst : Int), .int .i64 p.proto, .int .i64 p.sport, .int .i64 p.dport] 45)
  rw [z0] at h1
  generalize X0.alloc (.cells #[.int .u32 (p.src : Int), .int .u32 (p.dst : Int), .int .i64 p.proto, .int .i64 p.sport, .int .i64 p.dport] 45) = X at *
  have h2 := (k1.block _ (heap_lt h0) (fun h => h)).trans h0
  have f1 : X.cell? ⟨w.heap.size, 1, none⟩ = some (.slice bo rs.length bc) := by rw [cell_of_row _ _ _ _ _ _ h2]; rfl
  have KA := Lib.hid (k0.trans_no k1)
  have PA := Lib.hid h1
  have HR := Lib.hid (hr.no (k0.trans_no k1))
  clear h0 k0 z0 h1 k1 h2 hr
  go_wp2
  go_loopg [10] rs.length (fun gk s x => FiJ X rs p gk s x)
  case atStart => exact ⟨0, by omega, rfl, Kp.refl _ _, fun j _ hj => absurd hj (by omega)⟩
  case round =>
    clear f1
    obtain ⟨k, hk, rfl, kp, hno⟩ := hrel
    have HK := Lib.hid hk
    have KP := Lib.hid kp
    have HNO := Lib.hid hno
    clear hno
    by_cases hlt : k < rs.length
    · have hlti : (k : Int) < rs.length := by omega
      have HLT := Lib.hid hlt
      rcases HR.out.no kp with h0 | ⟨b, ob, rfl, hb, hc⟩
      · exact absurd h0 (by omega)
      have RU := Lib.hid (hc k rs[k] (List.getElem?_eq_getElem hlt))
      have OKX := Lib.hid (HRS.out rs[k] (List.getElem_mem hlt))
      have NEXT : Hid (ruB rs[k] p = false → ∀ j (hj : j < rs.length), j < k + 1 → ruB rs[j] p = false) := Lib.hid (fun h j hj hj2 => by
        by_cases e : j = k
        · subst e; exact h
        · exact HNO.out j hj (by omega))
      have HIT : Hid (ruB rs[k] p = true → FiI rs p (k : Int)) := Lib.hid (fun h => by
        refine .inl ⟨k, hlt, rfl, h, ?_⟩
        rw [acl_skip p rs k (by omega) HNO.out, List.drop_eq_getElem_cons hlt]
        show (if ruB rs[k] p = true then _ else _) = _
        rw [if_pos h])
      generalize rs[k] = x at *
      have nb := heap_alloc_new wr (.cells #[.bool x.pm, .int .i64 x.pr, .int .u32 (x.sa : Int), .int .u32 (x.sm : Int), .int .u32 (x.da : Int), .int .u32 (x.dm : Int), .int .i64 x.sl, .int .i64 x.sh, .int .i64 x.dl, .int .i64 x.dh] 116)
      have kn := Kp.alloc (w := wr) (.cells #[.bool x.pm, .int .i64 x.pr, .int .u32 (x.sa : Int), .int .u32 (x.sm : Int), .int .u32 (x.da : Int), .int .u32 (x.dm : Int), .int .i64 x.sl, .int .i64 x.sh, .int .i64 x.dl, .int .i64 x.dh] 116)
      have KZ := Lib.hid (kp.trans_no kn)
      obtain ⟨c0, c1, c2, c3, c4, c5, c6, c7, c8, c9⟩ := RU.out
      clear hk kp hb hc
      go_upto_region 4 with fail
      clear c0 c1 c2 c3 c4 c5 c6 c7 c8 c9
      generalize wr.alloc (.cells #[.bool x.pm, .int .i64 x.pr, .int .u32 (x.sa : Int), .int .u32 (x.sm : Int), .int .u32 (x.da : Int), .int .u32 (x.dm : Int), .int .i64 x.sl, .int .i64 x.sh, .int .i64 x.dl, .int .i64 x.dh] 116) = Z at *
      obtain ⟨e0, e1, e2, e3, e4, e5, e6, e7, e8, e9⟩ := cel10 nb
      obtain ⟨d0, d1, d2, d3, d4⟩ := PA.out.no KZ.out
      clear nb kn
      go_wp2_with fail
      refine (MT.out x OKX.out _).mono ?_
      rintro e y ⟨rfl, ky⟩
      have KY := Lib.hid (KZ.out.trans_no ky)
      clear ky e0 e1 e2 e3 e4 e5 e6 e7 e8 e9 d0 d1 d2 d3 d4
      rcases hq : ruB x p with _ | _
      · have NX := Lib.hid (NEXT.out hq)
        clear hq
        go_wp2
        go_roundg (rs.length - (k + 1))
        case measure => have := HK.out; have := HLT.out; omega
        case rel => exact ⟨k + 1, by have := HK.out; have := HLT.out; omega, by go_num, KY.out, NX.out⟩
      · have RET : Hid (∃ i : Int, Ending.returned (.int .i64 (k : Int)) = .returned (.int .i64 i) ∧ Kp No w y ∧ FiI rs p i) := Lib.hid ⟨_, rfl, KA.out.trans_no KY.out, HIT.out hq⟩
        clear hq
        go_wp2
        go_ret
        exact RET.out
    · obtain rfl : k = rs.length := by omega
      have RET : Hid (∃ i : Int, Ending.returned (.int .i64 (-1)) = .returned (.int .i64 i) ∧ Kp No w wr ∧ FiI rs p i) := Lib.hid ⟨_, rfl, KA.out.trans_no KP.out, .inr ⟨rfl, by
        rw [acl_skip p rs rs.length (Nat.le_refl _) (fun j hj _ => HNO.out j hj hj), List.drop_length]; rfl⟩⟩
      have hge : ¬ (rs.length : Int) < rs.length := by omega
      clear hk kp hlt
      go_wp2
      go_ret
      exact RET.out
end Go.Proofs.YtcebhlhpmdladaaGreatDoor

namespace Go.Proofs.YtcebhlhpmdladaaGreatDoor
open Go.RowKit

theorem NatAt.no {w w' : World} {p : Nat} {L : Lay} {cs : Array Value} {ts : List Tr} (h : NatAt w p L cs ts) (k : Kp No w w') : NatAt w' p L cs ts := by
  obtain ⟨ao, cp, h6, h1, h2, h3⟩ := h
  refine ⟨ao, cp, h6, h1, h2, ?_⟩
  rcases h3 with h0 | ⟨g, o, e, hg, hl, hc⟩
  · exact .inl h0
  refine .inr ⟨g, o, e, Nat.lt_of_lt_of_le hg k.size, hl, fun j t hj => ?_⟩
  have := hc j t hj
  have kk : ∀ z, w'.cell? ⟨g, z, none⟩ = w.cell? ⟨g, z, none⟩ := fun z => k.cell (a := ⟨g, z, none⟩) hg (fun h => h)
  unfold TrAt at this ⊢
  simp only [kk]
  exact this
theorem AcAt.no {w w' : World} {p : Nat} {L : Lay} {cs : Array Value} {acs : List (ByteArray × List Ru)} (h : AcAt w p L cs acs) (k : Kp No w w') : AcAt w' p L cs acs := by
  obtain ⟨ao, cp, h5, h1, h2, h3⟩ := h
  refine ⟨ao, cp, h5, h1, h2, ?_⟩
  rcases h3 with h0 | ⟨g, o, e, hg, hl, hx⟩
  · exact .inl h0
  refine .inr ⟨g, o, e, Nat.lt_of_lt_of_le hg k.size, hl, fun j x hj => ?_⟩
  obtain ⟨a1, bo, bc, a2, a3, a4, a5⟩ := hx j x hj
  refine ⟨by rw [k.cell (a := ⟨g, o + j * 2, none⟩) hg (fun h => h)]; exact a1, bo, bc, by rw [k.cell (a := ⟨g, o + j * 2 + 1, none⟩) hg (fun h => h)]; exact a2, a3, a4, ?_⟩
  rcases a5 with h0 | ⟨b, ob, e2, hb, hbl, hy⟩
  · exact .inl h0
  exact .inr ⟨b, ob, e2, Nat.lt_of_lt_of_le hb k.size, hbl, fun i y hi => (hy i y hi).no k⟩

/-- The cells that Permits reads. -/
def PmS (rb pb ag og len cp k : Nat) (nm : ByteArray) (bo : Option Addr) (n bc : Nat) (p : Pkt) (y : World) : Prop := (y.cell? ⟨rb, 5, none⟩ = some (.slice (some ⟨ag, og, none⟩) len cp) ∧ y.cell? ⟨ag, og + k * 2, none⟩ = some (.string nm) ∧ y.cell? ⟨ag, og + k * 2 + 1, none⟩ = some (.slice bo n bc)) ∧ y.cell? ⟨pb, 0, none⟩ = some (.int .u32 (p.src : Int)) ∧ y.cell? ⟨pb, 1, none⟩ = some (.int .u32 (p.dst : Int)) ∧ y.cell? ⟨pb, 2, none⟩ = some (.int .i64 p.proto) ∧ y.cell? ⟨pb, 3, none⟩ = some (.int .i64 p.sport) ∧ y.cell? ⟨pb, 4, none⟩ = some (.int .i64 p.dport)
theorem PmS.no {rb pb ag og len cp k : Nat} {nm : ByteArray} {bo : Option Addr} {n bc : Nat} {p : Pkt} {y y' : World} (h : PmS rb pb ag og len cp k nm bo n bc p y) (q : Kp No y y') : PmS rb pb ag og len cp k nm bo n bc p y' := by
  obtain ⟨⟨h1, h2, h3⟩, h4, h5, h6, h7, h8⟩ := h
  have kk : ∀ {a : Addr} {v : Value}, y.cell? a = some v → y'.cell? a = some v := fun {a v} e => by rw [q.cell (World.block_lt_of_cell? _ _ e) (fun h => h)]; exact e
  exact ⟨⟨kk h1, kk h2, kk h3⟩, kk h4, kk h5, kk h6, kk h7, kk h8⟩
set_option maxRecDepth 1000000 in
set_option maxHeartbeats 4000000 in
theorem Permits_ok (cs : Array Value) (hcs : cs.size = 25) (acs : List (ByteArray × List Ru)) (s : ByteArray) (p : Pkt) (hp : p.in32) (hok : ∀ x, x ∈ acs → ∀ y, y ∈ x.2 → y.ok) (w : World) {q : Nat} {L : Lay} (hn : AcAt w q L cs acs) :
    Calls Tryz.prog 27 #[.agg cs, .string s, pktV p] w fun e w' => e = .returned (.bool (pmB (acG acs) s p)) ∧ Kp No w w' := by
  obtain ⟨ao, cp, hcs5, hcp1, hcp2, hcell⟩ := hn
  have HC5 := Lib.hid hcs5
  have HCS := Lib.hid hcs
  have HP := Lib.hid hp
  have HCL := Lib.hid hcell
  have AN : Hid (AcN w ao acs.length (fun j => (acs.getD j (⟨#[]⟩, [])).1)) := Lib.hid (by
    rcases hcell with h0 | ⟨g, o, e, hg, _, hx⟩
    · exact .inl h0
    · refine .inr ⟨g, o, e, hg, fun j hj => ?_⟩
      obtain ⟨h1, bo, bc, h2, _⟩ := hx j acs[j] (List.getElem?_eq_getElem hj)
      refine ⟨?_, bo, _, bc, h2⟩
      simp only [List.getD_eq_getElem?_getD, List.getElem?_eq_getElem hj, Option.getD_some]
      exact h1)
  have h0 := heap_alloc_new w (.cells cs 41)
  have k0 : Kp No w (w.alloc (.cells cs 41)) := Kp.alloc _
  have z0 : (w.alloc (.cells cs 41)).heap.size = w.heap.size + 1 := by simp
  clear hcs5 hcell hcs hp
  unfold pktV
  go_enter Tryz.func27, Tryz.ntmps27
  go_upto_region 1 with fail
  generalize w.alloc (.cells cs 41) = X0 at *
  have h1 := PkAt.new X0 p 45
  have k1 := Kp.alloc (w := X0) (.cells #[.int .u32 (p.src : Int), .int .u32 (p.dst : Int), .int .i64 p.proto, .int .i64 p.sport, .int .i64 p.dport] 45)
  rw [z0] at h1
  generalize X0.alloc (.cells #[.int .u32 (p.src : Int), .int .u32 (p.dst : Int), .int .i64 p.proto, .int .i64 p.sport, .int .i64 p.dport] 45) = X at *
  have RX := Lib.hid ((k1.block _ (heap_lt h0) (fun h => h)).trans h0)
  have KX := Lib.hid (k0.trans_no k1)
  have PX := Lib.hid h1
  clear h0 k0 z0 h1 k1
  rcases str_cases s with ⟨es, es'⟩ | ⟨es, es'⟩
  · have RET : Hid (pmB (acG acs) s p = true) := Lib.hid (by unfold pmB; rw [es']; rfl)
    go_wp2
    go_ret
    exact ⟨by rw [RET.out]; rfl, KX.out⟩
  have PB : Hid (pmB (acG acs) s p = aclB (acG acs s) p) := Lib.hid (by unfold pmB; rw [es']; rfl)
  have AC := Lib.hid (ACL_ok cs s (cap := cp) X HC5.out (AN.out.no KX.out) (by omega))
  go_upto_region 3 with fail
  clear es es'
  go_wp2_with (refine wpList_load_rt rfl _ rfl w.heap.size rfl cs HCS.out RX.out ?_)
  refine AC.out.mono ?_
  rintro e w1 ⟨ki, rfl, k1, hki⟩
  have K1 := Lib.hid k1
  have R1 := Lib.hid ((k1.block _ (heap_lt RX.out) (fun h => h)).trans RX.out)
  have P1 := Lib.hid (PX.out.no k1)
  clear k1 AC
  rcases hki with ⟨k, rfl, hk, hnm, hno⟩ | ⟨e1, hno⟩
  case' inr =>
    have RET : Hid (aclB (acG acs s) p = false) := Lib.hid (by
      rw [acG_no acs s (fun x hx => ?_)]
      · rfl
      · obtain ⟨j, hj, rfl⟩ := List.getElem_of_mem hx
        have := hno j hj
        simp only [List.getD_eq_getElem?_getD, List.getElem?_eq_getElem hj, Option.getD_some] at this
        exact this)
    clear hno
    have hm1 : ki < 0 := by omega
    clear e1
    go_wp2
    go_ret
    exact ⟨by rw [PB.out, RET.out]; rfl, KX.out.trans_no K1.out⟩
  rcases HCL.out with h0 | ⟨ag, og, rfl, hag, _, hcl⟩
  · exact absurd h0 (by omega)
  obtain ⟨f0, bo, bc, f1, hbc1, hbc2, hru⟩ := hcl k acs[k] (List.getElem?_eq_getElem hk)
  have hnm' : acs[k].1.toList = s.toList := by
    simp only [List.getD_eq_getElem?_getD, List.getElem?_eq_getElem hk, Option.getD_some] at hnm
    exact hnm
  have FE : Hid (acG acs s = acs[k].2) := Lib.hid (by
    rw [acG_hit acs s k hk hnm' (fun j hj => by
      have := hno j hj
      simp only [List.getD_eq_getElem?_getD, List.getElem?_eq_getElem (show j < acs.length by omega), Option.getD_some] at this
      exact this)])
  have hrk : ∀ y, y ∈ acs[k].2 → y.ok := hok acs[k] (List.getElem_mem hk)
  generalize acs[k].2 = rs at *
  generalize acs[k].1 = nm at *
  have KW := Lib.hid (KX.out.trans_no K1.out)
  have RA : Hid (RusAt w1 bo rs) := Lib.hid (by
    rcases hru with h0 | ⟨b, ob, e2, hb, _, hy⟩
    · exact .inl h0
    · exact .inr ⟨b, ob, e2, Nat.lt_of_lt_of_le hb KW.out.size, fun i y hi => (hy i y hi).no KW.out⟩)
  have SF : Hid (PmS w.heap.size (w.heap.size + 1) ag og acs.length cp k nm bo rs.length bc p w1) := Lib.hid ⟨⟨by rw [cell_of_row _ _ _ _ _ _ R1.out]; exact HC5.out, by rw [KW.out.cell (a := ⟨ag, og + k * 2, none⟩) hag (fun h => h)]; exact f0, by rw [KW.out.cell (a := ⟨ag, og + k * 2 + 1, none⟩) hag (fun h => h)]; exact f1⟩, P1.out.c0, P1.out.c1, P1.out.c2, P1.out.c3, P1.out.c4⟩
  have hk0 : ¬ (k : Int) < 0 := by omega
  have hkl : ¬ (k : Int) ≥ (acs.length : Int) := by omega
  have hki : (k : Int) < (acs.length : Int) := by omega
  clear hcl f0 f1 hnm hnm' hno hru hok
  go_upto_region 6 with fail
  have FI := Lib.hid (First_ok nm bo bc rs p HP.out hrk (by omega) w1.drew (RA.out.no Kp.drew))
  refine wp_region_held_drew (S := PmS w.heap.size (w.heap.size + 1) ag og acs.length cp k nm bo rs.length bc p) (by kernel_rfl) (SF.out.no Kp.drew) (fun hS => ?_)
  refine tk 0 hS ?_
  refine tk 1 hS ?_
  refine tk 2 hS ?_
  refine tk 3 hS ?_
  refine tk 4 hS ?_
  refine tk 5 hS ?_
  refine op1 6 (fun K hK => ?_)
  go_simp
  go_at_call 61
  refine FI.out.mono ?_
  rintro e w2 ⟨i, rfl, k2, hfi⟩
  have K2 := Lib.hid ((Kp.drew (w := w1)).trans_no k2)
  have S2 := Lib.hid (SF.out.no K2.out)
  have HFI := Lib.hid hfi
  clear k2 hfi FI
  go_wp2_with fail
  refine hK.out _ _ S2.out (fun hHeld => ?_)
  clear hK K hS
  have hS := hHeld
  clear hHeld
  try simp only [Act.put, List.setIfInBounds_toArray, List.set_cons_zero, List.set_cons_succ]
  refine tk 7 hS ?_
  refine wpAnyH_done (by kernel_rfl) ?_ _
  clear hS SF
  rcases HFI.out with ⟨m, hm, rfl, hmt, hpm⟩ | ⟨rfl, hpm⟩
  case' inr =>
    have RET := Lib.hid hpm
    clear hpm
    go_wp2
    go_ret
    exact ⟨by rw [PB.out, FE.out, RET.out]; rfl, KW.out.trans_no K2.out⟩
  have RET := Lib.hid hpm
  rcases RA.out.no K2.out with h0 | ⟨b, ob, rfl, hb, hy⟩
  · exact absurd h0 (by omega)
  obtain ⟨⟨c1, c2, c3⟩, c4, c5, c6, c7, c8⟩ := S2.out
  have c9 := (hy m rs[m] (List.getElem?_eq_getElem hm)).1
  have hm0 : ¬ (m : Int) < 0 := by omega
  have hmge : (m : Int) ≥ 0 := by omega
  have hml : ¬ (m : Int) ≥ (rs.length : Int) := by omega
  have hmi : (m : Int) < (rs.length : Int) := by omega
  generalize rs[m].pm = pm at *
  clear hpm hy hmt
  go_wp2
  go_ret
  exact ⟨by rw [PB.out, FE.out, RET.out]; rfl, KW.out.trans_no K2.out⟩

/-- A packet's box. -/
def PkB (w : World) (b : Nat) (p : Pkt) : Prop := w.heap[b]? = some (.cells #[.int .u32 (p.src : Int), .int .u32 (p.dst : Int), .int .i64 p.proto, .int .i64 p.sport, .int .i64 p.dport] 45 (0, 0))
theorem PkB.c {w : World} {b : Nat} {p : Pkt} (h : PkB w b p) : w.cell? ⟨b, 0, none⟩ = some (.int .u32 (p.src : Int)) ∧ w.cell? ⟨b, 1, none⟩ = some (.int .u32 (p.dst : Int)) ∧ w.cell? ⟨b, 2, none⟩ = some (.int .i64 p.proto) ∧ w.cell? ⟨b, 3, none⟩ = some (.int .i64 p.sport) ∧ w.cell? ⟨b, 4, none⟩ = some (.int .i64 p.dport) := cel5 h
theorem PkB.no {w w' : World} {b : Nat} {p : Pkt} (h : PkB w b p) (k : Kp No w w') : PkB w' b p := (k.block _ (heap_lt h) (fun h => h)).trans h
theorem PkB.z {w : World} {b : Nat} {p : Pkt} (h : PkB w b p) (i : Nat) : w.frozen? ⟨b, i, none⟩ = false := by
  unfold PkB at h
  simp [World.frozen?, h]
/-- The way through the translations. -/
def DsJ (X : World) (ts : List Tr) (p : Pkt) (gk : Nat) (s : Value) (x : World) : Prop := ∃ k : Nat, k + gk = ts.length ∧ s = .int .i64 (k : Int) ∧ Kp No X x ∧ pkDst ts p = pkDst (ts.drop k) p
set_option maxRecDepth 1000000 in
set_option maxHeartbeats 8000000 in
theorem NDest_ok (cs : Array Value) (ts : List Tr) (p : Pkt) (w : World) {q : Nat} {L : Lay} (hn : NatAt w q L cs ts) :
    Calls Tryz.prog 10 #[.agg cs, pktV p] w fun e w' => e = .returned (pktV (pkDst ts p)) ∧ Kp No w w' := by
  have HN := Lib.hid hn
  obtain ⟨ao, cp, hcs6, hcp1, hcp2, _⟩ := hn
  have HC6 := Lib.hid hcs6
  have h0 := heap_alloc_new w (.cells cs 41)
  have k0 : Kp No w (w.alloc (.cells cs 41)) := Kp.alloc _
  have z0 : (w.alloc (.cells cs 41)).heap.size = w.heap.size + 1 := by simp
  have hli : (ts.length : Int) ≤ 9223372036854775807 := by omega
  clear hcs6
  unfold pktV
  go_enter Tryz.func10, Tryz.ntmps10
  go_upto_region 1 with fail
  generalize w.alloc (.cells cs 41) = X0 at *
  have h1 : PkB (X0.alloc (.cells #[.int .u32 (p.src : Int), .int .u32 (p.dst : Int), .int .i64 p.proto, .int .i64 p.sport, .int .i64 p.dport] 45)) X0.heap.size p := heap_alloc_new X0 _
  have k1 := Kp.alloc (w := X0) (.cells #[.int .u32 (p.src : Int), .int .u32 (p.dst : Int), .int .i64 p.proto, .int .i64 p.sport, .int .i64 p.dport] 45)
  have z1 : (X0.alloc (.cells #[.int .u32 (p.src : Int), .int .u32 (p.dst : Int), .int .i64 p.proto, .int .i64 p.sport, .int .i64 p.dport] 45)).heap.size = w.heap.size + 1 + 1 := by simp [z0]
  rw [z0] at h1
  generalize X0.alloc (.cells #[.int .u32 (p.src : Int), .int .u32 (p.dst : Int), .int .i64 p.proto, .int .i64 p.sport, .int .i64 p.dport] 45) = X1 at *
  have h2 : PkB (X1.alloc (.cells #[.int .u32 0, .int .u32 0, .int .i64 0, .int .i64 0, .int .i64 0] 45)) X1.heap.size pkz := heap_alloc_new X1 _
  have k2 := Kp.alloc (w := X1) (.cells #[.int .u32 0, .int .u32 0, .int .i64 0, .int .i64 0, .int .i64 0] 45)
  rw [z1] at h2
  generalize X1.alloc (.cells #[.int .u32 0, .int .u32 0, .int .i64 0, .int .i64 0, .int .i64 0] 45) = X at *
  have RX := Lib.hid (((k1.trans_no k2).block _ (heap_lt h0) (fun h => h)).trans h0)
  have PX := Lib.hid (h1.no k2)
  have ZX := Lib.hid h2
  have KX := Lib.hid ((k0.trans_no k1).trans_no k2)
  have f6 : X.cell? ⟨w.heap.size, 6, none⟩ = some (.slice ao ts.length cp) := by rw [cell_of_row _ _ _ _ _ _ RX.out]; exact HC6.out
  clear h0 h1 h2 k0 k1 k2 z0 z1
  go_wp2
  go_loopg [10] ts.length (fun gk s x => DsJ X ts p gk s x)
  case atStart => exact ⟨0, by omega, rfl, Kp.refl _ _, rfl⟩
  case round =>
    clear f6
    obtain ⟨k, hk, rfl, kp, hno⟩ := hrel
    have HK := Lib.hid hk
    have KP := Lib.hid kp
    have HNO := Lib.hid hno
    clear hno hk
    have PW := Lib.hid (PX.out.no kp)
    have ZW := Lib.hid (ZX.out.no kp)
    by_cases hlt : k < ts.length
    · have hlti : (k : Int) < ts.length := by omega
      have HLT := Lib.hid hlt
      obtain ⟨ao', cp', e6, _, _, hc3⟩ := HN.out.no (KX.out.trans_no kp)
      rw [HC6.out] at e6
      cases e6
      rcases hc3 with h0 | ⟨g, o, rfl, hg, _, hc⟩
      · exact absurd h0 (by omega)
      obtain ⟨c0, c1, c2, c3, c4, c5, c6, c7, c8⟩ := hc k ts[k] (List.getElem?_eq_getElem hlt)
      have ST : Hid (pkDst ts p = if ts[k].k = 1 ∧ ts[k].o = p.dst then { p with dst := ts[k].i } else if ts[k].k = 3 ∧ ts[k].o = p.dst ∧ ts[k].pr = p.proto ∧ ts[k].op = p.dport then { p with dst := ts[k].i, dport := ts[k].ip } else pkDst (ts.drop (k + 1)) p) := Lib.hid (by
        rw [HNO.out, List.drop_eq_getElem_cons hlt]; rfl)
      generalize ts[k] = t at *
      have nb := heap_alloc_new wr (.cells #[.int .i64 t.k, .int .u32 (t.i : Int), .int .u32 (t.o : Int), .int .i64 t.pr, .int .i64 t.ip, .int .i64 t.op, .string t.nm, .int .u32 (t.lo : Int), .int .u32 (t.hi : Int)] 64)
      have kn := Kp.alloc (w := wr) (.cells #[.int .i64 t.k, .int .u32 (t.i : Int), .int .u32 (t.o : Int), .int .i64 t.pr, .int .i64 t.ip, .int .i64 t.op, .string t.nm, .int .u32 (t.lo : Int), .int .u32 (t.hi : Int)] 64)
      have KZ := Lib.hid (kp.trans_no kn)
      clear kp hg hc
      go_upto_region 4 with fail
      clear c0 c1 c2 c3 c4 c5 c6 c7 c8
      generalize wr.alloc (.cells #[.int .i64 t.k, .int .u32 (t.i : Int), .int .u32 (t.o : Int), .int .i64 t.pr, .int .i64 t.ip, .int .i64 t.op, .string t.nm, .int .u32 (t.lo : Int), .int .u32 (t.hi : Int)] 64) = Z at *
      have NB := Lib.hid nb
      have PZ := Lib.hid (PX.out.no KZ.out)
      have ZZ := Lib.hid (ZX.out.no KZ.out)
      obtain ⟨d0, d1, d2, d3, d4, d5, d6, d7, d8⟩ := cel9 nb
      obtain ⟨e0, e1, e2, e3, e4⟩ := PZ.out.c
      clear nb kn
      have frz := PZ.out.z
      by_cases q1 : t.k = 1 ∧ t.o = p.dst
      · obtain ⟨q1a, q1b⟩ := q1
        have RES : Hid (pkDst ts p = { p with dst := t.i }) := Lib.hid (by rw [ST.out, if_pos ⟨q1a, q1b⟩])
        clear ST
        have q1c : (t.o : Int) = (p.dst : Int) := by omega
        go_upto_region 6 with fail
        have P1 : PkB (Z.setCell ⟨w.heap.size + 1, 1, none⟩ (.int .u32 (t.i : Int))) (w.heap.size + 1) { p with dst := t.i } := by
          unfold PkB
          rw [setCell_heap PZ.out]; rfl
        have k1 := Kp.setCell (w := Z) ⟨w.heap.size + 1, 1, none⟩ (.int .u32 (t.i : Int))
        have Z1 : PkB (Z.setCell ⟨w.heap.size + 1, 1, none⟩ (.int .u32 (t.i : Int))) (w.heap.size + 1 + 1) pkz := (k1.block _ (heap_lt ZZ.out) (fun e => by have : w.heap.size + 1 + 1 = w.heap.size + 1 := e; omega)).trans ZZ.out
        generalize Z.setCell ⟨w.heap.size + 1, 1, none⟩ (.int .u32 (t.i : Int)) = Y at *
        have KY := Lib.hid ((KX.out.trans_no KZ.out).trans (A' := fun b => b = w.heap.size + 1) (fun b e => .inr (by omega)) k1)
        have PY := Lib.hid P1
        clear d0 d1 d2 d3 d4 d5 d6 d7 d8 e0 e1 e2 e3 e4 frz k1 q1a q1b q1c P1
        obtain ⟨e0, e1, e2, e3, e4⟩ := PY.out.c
        dsimp only at e0 e1 e2 e3 e4
        unfold PkB at Z1
        go_wp2_with (refine wpList_store_arr rfl _ _ _ rfl (w.heap.size + 1 + 1) #[.int .u32 (p.src : Int), .int .u32 (t.i : Int), .int .i64 p.proto, .int .i64 p.sport, .int .i64 p.dport] rfl rfl 45 _ Z1 (by kernel_rfl) (by kernel_rfl) (by kernel_rfl) ?_; intro w2 hw2 kw2)
        have KF := Lib.hid (KY.out.trans (A' := fun b => b = w.heap.size + 1 + 1) (fun b e => .inr (by omega)) kw2)
        clear kw2 e0 e1 e2 e3 e4 Z1
        go_wp2
        refine bodyPost_ret (results_cell_row rfl _ _ _ _ _ _ _ rfl hw2 Tryz.underlying45 rfl (by kernel_rfl)) rfl ?_
        exact ⟨by rw [RES.out], KF.out⟩
      · have ST2 : Hid (pkDst ts p = if t.k = 3 ∧ t.o = p.dst ∧ t.pr = p.proto ∧ t.op = p.dport then { p with dst := t.i, dport := t.ip } else pkDst (ts.drop (k + 1)) p) := Lib.hid (by rw [ST.out, if_neg q1])
        clear ST
        have q1' : t.k ≠ 1 ∨ (t.k = 1 ∧ ¬ ((t.o : Int) = (p.dst : Int))) := by omega
        clear q1
        by_cases q3 : t.k = 3 ∧ t.o = p.dst ∧ t.pr = p.proto ∧ t.op = p.dport
        · obtain ⟨q3a, q3b, q3c, q3d⟩ := q3
          have RES : Hid (pkDst ts p = { p with dst := t.i, dport := t.ip }) := Lib.hid (by rw [ST2.out, if_pos ⟨q3a, q3b, q3c, q3d⟩])
          clear ST2 q1'
          have q3e : (t.o : Int) = (p.dst : Int) := by omega
          go_upto_region 8 with fail
          have N0 := (Kp.drew (w := Z)).block _ (heap_lt NB.out) (fun h => h) |>.trans NB.out
          have P0 := PZ.out.no (Kp.drew (w := Z))
          have Z0 := ZZ.out.no (Kp.drew (w := Z))
          have K0 := KZ.out.trans_no (Kp.drew (w := Z))
          clear d0 d1 d2 d3 d4 d5 d6 d7 d8 e0 e1 e2 e3 e4 frz q3a q3b q3c q3d q3e
          refine wp_region_held_drew (S := fun y => y.cell? ⟨wr.heap.size, 1, none⟩ = some (.int .u32 (t.i : Int)) ∧ y.cell? ⟨wr.heap.size, 4, none⟩ = some (.int .i64 t.ip)) (by kernel_rfl) ⟨by rw [cell_of_row _ _ _ _ _ _ N0]; rfl, by rw [cell_of_row _ _ _ _ _ _ N0]; rfl⟩ (fun hS => ?_)
          generalize Z.drew = Y0 at *
          have hwr := KX.out.size
          have hwx := KP.out.size
          have hxx := heap_lt ZX.out
          refine tk 0 hS ?_
          refine tk 1 hS ?_
          refine tk 2 hS ?_
          refine tk 3 hS ?_
          refine tk 4 hS ?_
          refine op1 5 (fun K hK => ?_)
          have lc := P0.c.2.1
          have lz := P0.z 1
          go_simp
          clear lc lz
          have n1 : wr.heap.size ≠ w.heap.size + 1 := by omega
          have N1 : (Y0.setCell ⟨w.heap.size + 1, 1, none⟩ (.int .u32 (t.i : Int))).heap[wr.heap.size]? = some (.cells #[.int .i64 t.k, .int .u32 (t.i : Int), .int .u32 (t.o : Int), .int .i64 t.pr, .int .i64 t.ip, .int .i64 t.op, .string t.nm, .int .u32 (t.lo : Int), .int .u32 (t.hi : Int)] 64 (0, 0)) := by rw [Below.heap_setCell _ _ _ _ n1]; exact N0
          have P1 : PkB (Y0.setCell ⟨w.heap.size + 1, 1, none⟩ (.int .u32 (t.i : Int))) (w.heap.size + 1) { p with dst := t.i } := by
            unfold PkB
            rw [setCell_heap P0]; rfl
          have k1 := Kp.setCell (w := Y0) ⟨w.heap.size + 1, 1, none⟩ (.int .u32 (t.i : Int))
          have Z1 : PkB (Y0.setCell ⟨w.heap.size + 1, 1, none⟩ (.int .u32 (t.i : Int))) (w.heap.size + 1 + 1) pkz := (k1.block _ (heap_lt Z0) (fun e => by have : w.heap.size + 1 + 1 = w.heap.size + 1 := e; omega)).trans Z0
          refine hK.out _ _ ⟨by rw [cell_of_row _ _ _ _ _ _ N1]; rfl, by rw [cell_of_row _ _ _ _ _ _ N1]; rfl⟩ (fun hHeld => ?_)
          clear hK K hS
          have hS := hHeld
          clear hHeld
          try simp only [Act.put, List.setIfInBounds_toArray, List.set_cons_zero, List.set_cons_succ]
          have KY1 := (KX.out.trans_no K0).trans (A' := fun b => b = w.heap.size + 1) (fun b e => .inr (by omega)) k1
          generalize Y0.setCell ⟨w.heap.size + 1, 1, none⟩ (.int .u32 (t.i : Int)) = Y1 at *
          refine tk 6 hS ?_
          refine op1 7 (fun K hK => ?_)
          have lc := P1.c.2.2.2.2
          have lz := P1.z 4
          dsimp only at lc lz
          go_simp
          clear lc lz
          have N2 : (Y1.setCell ⟨w.heap.size + 1, 4, none⟩ (.int .i64 t.ip)).heap[wr.heap.size]? = some (.cells #[.int .i64 t.k, .int .u32 (t.i : Int), .int .u32 (t.o : Int), .int .i64 t.pr, .int .i64 t.ip, .int .i64 t.op, .string t.nm, .int .u32 (t.lo : Int), .int .u32 (t.hi : Int)] 64 (0, 0)) := by rw [Below.heap_setCell _ _ _ _ n1]; exact N1
          have P2 : PkB (Y1.setCell ⟨w.heap.size + 1, 4, none⟩ (.int .i64 t.ip)) (w.heap.size + 1) { p with dst := t.i, dport := t.ip } := by
            unfold PkB
            rw [setCell_heap P1]; rfl
          have k2 := Kp.setCell (w := Y1) ⟨w.heap.size + 1, 4, none⟩ (.int .i64 t.ip)
          have Z2 : PkB (Y1.setCell ⟨w.heap.size + 1, 4, none⟩ (.int .i64 t.ip)) (w.heap.size + 1 + 1) pkz := (k2.block _ (heap_lt Z1) (fun e => by have : w.heap.size + 1 + 1 = w.heap.size + 1 := e; omega)).trans Z1
          refine hK.out _ _ ⟨by rw [cell_of_row _ _ _ _ _ _ N2]; rfl, by rw [cell_of_row _ _ _ _ _ _ N2]; rfl⟩ (fun hHeld => ?_)
          clear hK K hS hHeld
          try simp only [Act.put, List.setIfInBounds_toArray, List.set_cons_zero, List.set_cons_succ]
          have KY := Lib.hid (KY1.trans (A' := fun b => b = w.heap.size + 1) (fun b e => .inr (by omega)) k2)
          generalize Y1.setCell ⟨w.heap.size + 1, 4, none⟩ (.int .i64 t.ip) = Y at *
          refine wpAnyH_done (by kernel_rfl) ?_ _
          clear N0 P0 Z0 K0 N1 P1 k1 Z1 KY1 N2 k2 hwr hwx hxx n1
          obtain ⟨e0, e1, e2, e3, e4⟩ := P2.c
          dsimp only at e0 e1 e2 e3 e4
          unfold PkB at Z2
          clear P2
          go_wp2_with (refine wpList_store_arr rfl _ _ _ rfl (w.heap.size + 1 + 1) #[.int .u32 (p.src : Int), .int .u32 (t.i : Int), .int .i64 p.proto, .int .i64 p.sport, .int .i64 t.ip] rfl rfl 45 _ Z2 (by kernel_rfl) (by kernel_rfl) (by kernel_rfl) ?_; intro w2 hw2 kw2)
          have KF := Lib.hid (KY.out.trans (A' := fun b => b = w.heap.size + 1 + 1) (fun b e => .inr (by omega)) kw2)
          clear kw2 e0 e1 e2 e3 e4 Z2
          go_wp2
          refine bodyPost_ret (results_cell_row rfl _ _ _ _ _ _ _ rfl hw2 Tryz.underlying45 rfl (by kernel_rfl)) rfl ?_
          exact ⟨by rw [RES.out], KF.out⟩
        · have NX : Hid (pkDst ts p = pkDst (ts.drop (k + 1)) p) := Lib.hid (by rw [ST2.out, if_neg q3])
          clear ST2
          have q3' : t.k ≠ 3 ∨ (t.k = 3 ∧ ¬ ((t.o : Int) = (p.dst : Int))) ∨ (t.k = 3 ∧ (t.o : Int) = (p.dst : Int) ∧ t.pr ≠ p.proto) ∨ (t.k = 3 ∧ (t.o : Int) = (p.dst : Int) ∧ t.pr = p.proto ∧ t.op ≠ p.dport) := by omega
          clear q3
          rcases q1' with q1' | ⟨q1', q2'⟩
          · rcases q3' with q4 | ⟨q4, q5⟩ | ⟨q4, q5, q6⟩ | ⟨q4, q5, q6, q7⟩
            all_goals
              go_wp2
              (go_roundg (ts.length - (k + 1))
               case measure => have := HK.out; have := HLT.out; omega
               case rel => exact ⟨k + 1, by have := HK.out; have := HLT.out; omega, by go_num, KZ.out, NX.out⟩)
          · have q4 : t.k ≠ 3 := by omega
            clear q3'
            go_wp2
            go_roundg (ts.length - (k + 1))
            case measure => have := HK.out; have := HLT.out; omega
            case rel => exact ⟨k + 1, by have := HK.out; have := HLT.out; omega, by go_num, KZ.out, NX.out⟩
    · obtain rfl : k = ts.length := by have := HK.out; omega
      have RES : Hid (pkDst ts p = p) := Lib.hid (by rw [HNO.out, List.drop_length]; rfl)
      have hge : ¬ (ts.length : Int) < ts.length := by omega
      have Z1 := ZW.out
      unfold PkB at Z1
      obtain ⟨e0, e1, e2, e3, e4⟩ := PW.out.c
      clear kp hlt
      go_wp2_with (refine wpList_store_arr rfl _ _ _ rfl (w.heap.size + 1 + 1) #[.int .u32 (p.src : Int), .int .u32 (p.dst : Int), .int .i64 p.proto, .int .i64 p.sport, .int .i64 p.dport] rfl rfl 45 _ Z1 (by kernel_rfl) (by kernel_rfl) (by kernel_rfl) ?_; intro w2 hw2 kw2)
      have KF := Lib.hid ((KX.out.trans_no KP.out).trans (A' := fun b => b = w.heap.size + 1 + 1) (fun b e => .inr (by omega)) kw2)
      clear kw2 e0 e1 e2 e3 e4 Z1
      go_wp2
      refine bodyPost_ret (results_cell_row rfl _ _ _ _ _ _ _ rfl hw2 Tryz.underlying45 rfl (by kernel_rfl)) rfl ?_
      exact ⟨by rw [RES.out], KF.out⟩
end Go.Proofs.YtcebhlhpmdladaaGreatDoor

namespace Go.Proofs.YtcebhlhpmdladaaGreatDoor
open Go.RowKit

theorem info_pkt : (Tryz.prog.info? 45).map (fun i => (i.zero, i.size, i.bytes)) = some (some (.agg #[.int .u32 0, .int .u32 0, .int .i64 0, .int .i64 0, .int .i64 0]), 5, 32) := by kernel_rfl
/-- The cells of a packet. -/
def pkC (p : Pkt) : List Value := [.int .u32 (p.src : Int), .int .u32 (p.dst : Int), .int .i64 p.proto, .int .i64 p.sport, .int .i64 p.dport]
theorem pkC_at : ∀ (l : List Pkt) (j : Nat) (q : Pkt) (i : Nat), l[j]? = some q → i < 5 → (l.flatMap pkC)[j * 5 + i]? = (pkC q)[i]?
  | [], j, q, i, h, _ => by simp at h
  | p :: l, 0, q, i, h, hi => by
    simp at h
    subst h
    rw [List.flatMap_cons, Nat.zero_mul, Nat.zero_add, List.getElem?_append_left (by simpa [pkC] using hi)]
  | p :: l, j + 1, q, i, h, hi => by
    rw [List.flatMap_cons, List.getElem?_append_right (by simp [pkC]; omega)]
    have := pkC_at l j q i (by simpa using h) hi
    rw [show (pkC p).length = 5 from rfl, show (j + 1) * 5 + i - 5 = j * 5 + i by omega]
    exact this
/-- A slice of packets. -/
def PksIn (w : World) (v : Value) (l : List Pkt) : Prop := ∃ (g cap : Nat), v = .slice (some ⟨g, 0, none⟩) l.length cap ∧ l.length ≤ cap ∧ cap ≤ 9223372036854775807 ∧ g < w.heap.size ∧ ∀ j q, l[j]? = some q → w.cell? ⟨g, j * 5, none⟩ = some (.int .u32 (q.src : Int)) ∧ w.cell? ⟨g, j * 5 + 1, none⟩ = some (.int .u32 (q.dst : Int)) ∧ w.cell? ⟨g, j * 5 + 2, none⟩ = some (.int .i64 q.proto) ∧ w.cell? ⟨g, j * 5 + 3, none⟩ = some (.int .i64 q.sport) ∧ w.cell? ⟨g, j * 5 + 4, none⟩ = some (.int .i64 q.dport)
theorem PksIn.kp {A : Nat → Prop} {w w' : World} {v : Value} {l : List Pkt} (h : PksIn w v l) (k : Kp A w w') (hA : ∀ b, v.ownBlock = some b → ¬ A b) : PksIn w' v l := by
  obtain ⟨g, cap, e, h1, h2, hg, hc⟩ := h
  subst e
  have kk : ∀ z, w'.cell? ⟨g, z, none⟩ = w.cell? ⟨g, z, none⟩ := fun z => k.cell (a := ⟨g, z, none⟩) hg (hA g rfl)
  exact ⟨g, cap, rfl, h1, h2, Nat.lt_of_lt_of_le hg k.size, fun j q hj => by simp only [kk]; exact hc j q hj⟩
theorem PksIn.no {w w' : World} {v : Value} {l : List Pkt} (h : PksIn w v l) (k : Kp No w w') : PksIn w' v l := h.kp k (fun _ _ h => h)
theorem PksIn.one {w : World} {b : Nat} {p : Pkt} (h : PkB w b p) : PksIn w (.slice (some ⟨b, 0, none⟩) 1 1) [p] := by
  refine ⟨b, 1, rfl, Nat.le_refl _, by decide, heap_lt h, fun j q hj => ?_⟩
  match j, hj with
  | 0, hj =>
    cases hj
    simpa using h.c
theorem PksIn.of_row {w : World} {base n : Nat} {v : Value} {l : List Pkt} (h : w.ownsRow base 45 5 v n (l.flatMap pkC)) (hn : n = l.length) (h0 : 0 < l.length) : PksIn w v l := by
  subst hn
  obtain ⟨g, cap, hv, h1, h2, h3, hc, _⟩ := ownsRow_open h (by omega)
  have hm := maxLen_val
  refine ⟨g, cap, hv, h1, ?_, ?_, fun j q hj => ?_⟩
  · omega
  · exact (h.lt g (by rw [hv]; rfl)).2
  · have at_ : ∀ i x, i < 5 → (pkC q)[i]? = some x → w.cell? ⟨g, j * 5 + i, none⟩ = some x := fun i x hi hx => by
      have := hc (j * 5 + i) x (by rw [pkC_at l j q i hj hi]; exact hx)
      simpa using this
    exact ⟨at_ 0 _ (by omega) rfl, at_ 1 _ (by omega) rfl, at_ 2 _ (by omega) rfl, at_ 3 _ (by omega) rfl, at_ 4 _ (by omega) rfl⟩
theorem poolP_succ (lo k : Nat) (p : Pkt) : poolP lo (k + 1) p = poolP lo k p ++ [{ p with src := lo + k }] := by
  unfold poolP
  rw [List.range_succ, List.map_append]; rfl
/-- The way through a pool. -/
def PoJ (w X : World) (pb lo n : Nat) (p : Pkt) (gk : Nat) (s5 s6 : Value) (x : World) : Prop :=
  ∃ (k s : Nat), k + gk = n ∧ s6 = .int .u64 ((lo + k : Nat) : Int) ∧ x.ownsRow (w.heap.size + 2) 45 5 s5 k ((poolP lo k p).flatMap pkC) ∧ PkB x pb { p with src := s } ∧ Kp (fun b => b = pb) X x
set_option maxRecDepth 1000000 in
set_option maxHeartbeats 4000000 in
theorem pool_ok (t : Tr) (h1 : t.lo ≤ t.hi) (h2 : t.hi - t.lo < 8) (h3 : t.hi < 4294967296) (p : Pkt) (w : World) :
    Calls Tryz.prog 28 #[.agg t.v, pktV p] w fun e w' => ∃ v, e = .returned v ∧ PksIn w' v (poolP t.lo (t.hi - t.lo + 1) p) ∧ Kp No w w' ∧ (∀ b, v.ownBlock = some b → w.heap.size ≤ b) := by
  obtain ⟨n, hn⟩ : ∃ n, n = t.hi - t.lo + 1 := ⟨_, rfl⟩
  rw [← hn]
  have hn8 : n ≤ 8 := by omega
  have HN := Lib.hid hn
  obtain ⟨i0, hi0, hz0, hz1, hz2⟩ := info_parts info_pkt
  have h0 := heap_alloc_new w (.cells #[.int .i64 t.k, .int .u32 (t.i : Int), .int .u32 (t.o : Int), .int .i64 t.pr, .int .i64 t.ip, .int .i64 t.op, .string t.nm, .int .u32 (t.lo : Int), .int .u32 (t.hi : Int)] 64)
  have k0 := Kp.alloc (w := w) (.cells #[.int .i64 t.k, .int .u32 (t.i : Int), .int .u32 (t.o : Int), .int .i64 t.pr, .int .i64 t.ip, .int .i64 t.op, .string t.nm, .int .u32 (t.lo : Int), .int .u32 (t.hi : Int)] 64)
  have z0 : (w.alloc (.cells #[.int .i64 t.k, .int .u32 (t.i : Int), .int .u32 (t.o : Int), .int .i64 t.pr, .int .i64 t.ip, .int .i64 t.op, .string t.nm, .int .u32 (t.lo : Int), .int .u32 (t.hi : Int)] 64)).heap.size = w.heap.size + 1 := by simp
  unfold Tr.v pktV
  go_enter Tryz.func28, Tryz.ntmps28
  go_upto_region 1 with fail
  generalize w.alloc (.cells #[.int .i64 t.k, .int .u32 (t.i : Int), .int .u32 (t.o : Int), .int .i64 t.pr, .int .i64 t.ip, .int .i64 t.op, .string t.nm, .int .u32 (t.lo : Int), .int .u32 (t.hi : Int)] 64) = X0 at *
  have hp1 : PkB (X0.alloc (.cells #[.int .u32 (p.src : Int), .int .u32 (p.dst : Int), .int .i64 p.proto, .int .i64 p.sport, .int .i64 p.dport] 45)) X0.heap.size p := heap_alloc_new X0 _
  have k1 := Kp.alloc (w := X0) (.cells #[.int .u32 (p.src : Int), .int .u32 (p.dst : Int), .int .i64 p.proto, .int .i64 p.sport, .int .i64 p.dport] 45)
  have z1 : (X0.alloc (.cells #[.int .u32 (p.src : Int), .int .u32 (p.dst : Int), .int .i64 p.proto, .int .i64 p.sport, .int .i64 p.dport] 45)).heap.size = w.heap.size + 2 := by simp [z0]
  rw [z0] at hp1
  generalize X0.alloc (.cells #[.int .u32 (p.src : Int), .int .u32 (p.dst : Int), .int .i64 p.proto, .int .i64 p.sport, .int .i64 p.dport] 45) = X at *
  have TX := Lib.hid ((k1.block _ (heap_lt h0) (fun h => h)).trans h0)
  have PX := Lib.hid hp1
  have KX := Lib.hid (k0.trans_no k1)
  have ZX := Lib.hid z1
  clear h0 k0 z0 hp1 k1 z1 hn
  have hlo : (t.lo : Int) < 4294967296 := by omega
  have hhi : (t.hi : Int) < 4294967296 := by omega
  obtain ⟨c0, c1, c2, c3, c4, c5, c6, c7, c8⟩ := cel9 TX.out
  go_upto_region 3 with fail
  clear c0 c1 c2 c3 c4 c5 c6 c7 c8
  go_loopg [5, 6] n (fun gk s5 s6 x => PoJ w X (w.heap.size + 1) t.lo n p gk s5 s6 x)
  case atStart => exact ⟨0, p.src, by omega, by rfl, World.ownsRow_nil _ _ _ _, PX.out, Kp.refl _ _⟩
  case round =>
    obtain ⟨k, s, hk, e6, own, hpb, kp⟩ := hrel
    subst e6
    have HK := Lib.hid hk
    have OWN := Lib.hid own
    have PB := Lib.hid hpb
    have KP := Lib.hid kp
    have hx0 := heap_lt TX.out
    have TW := (kp.block _ (heap_lt TX.out) (fun e => by have : w.heap.size = w.heap.size + 1 := e; omega)).trans TX.out
    obtain ⟨c0, c1, c2, c3, c4, c5, c6, c7, c8⟩ := cel9 TW
    obtain ⟨x, hx⟩ : ∃ x, x = t.lo + k := ⟨_, rfl⟩
    rw [← hx]
    have HX := Lib.hid hx
    obtain ⟨a5, k5, rfl, _⟩ := ownsRow_len (row_zero own)
    clear hk hpb kp own hx
    by_cases hlt : k < n
    · have HLT := Lib.hid hlt
      have hle : (x : Int) ≤ (t.hi : Int) := by have := HX.out; have := HN.out; omega
      have hxl : (x : Int) < 4294967296 := by omega
      have hk8 : (k : Int) < 8 := by omega
      have lc := PB.out.c.1
      have lz := PB.out.z 0
      clear hlt hn8 h1 h2 h3
      go_upto_region 6 with fail
      have P1 : PkB (wr.setCell ⟨w.heap.size + 1, 0, none⟩ (.int .u32 (x : Int))) (w.heap.size + 1) { p with src := x } := by
        unfold PkB
        rw [setCell_heap PB.out]; rfl
      have k1 := Kp.setCell (w := wr) ⟨w.heap.size + 1, 0, none⟩ (.int .u32 (x : Int))
      have own1 := ownsRow_kp OWN.out k1 (fun b hb e => by have := (OWN.out.lt b hb).1; have : b = w.heap.size + 1 := e; omega)
      have KY := Lib.hid (KP.out.trans (A' := fun b => b = w.heap.size + 1) (fun b e => .inl e) k1)
      generalize wr.setCell ⟨w.heap.size + 1, 0, none⟩ (.int .u32 (x : Int)) = Y at *
      have PY := Lib.hid P1
      have OY := Lib.hid own1
      have hsY : w.heap.size + 2 ≤ Y.heap.size := by have := ZX.out; have := KY.out.size; omega
      obtain ⟨e0, e1, e2, e3, e4⟩ := P1.c
      dsimp only at e0 e1 e2 e3 e4
      clear lc lz c0 c1 c2 c3 c4 c5 c6 c7 c8 TW P1 k1
      go_upto_region 4 with (at_builtin; refine wpList_append_lies _ rfl (.tmp 25) (.tmp 27) _ rfl (w.heap.size + 2) 45 i0 _ 5 32 Tryz.underlying42 hi0 hz0 hz1 hz2 rfl (by omega) (.slice a5 k k5) k ((poolP t.lo k p).flatMap pkC) rfl (own1.alloc _) ⟨Y.heap.size, 0, none⟩ 1 1 [.int .u32 (x : Int), .int .u32 (p.dst : Int), .int .i64 p.proto, .int .i64 p.sport, .int .i64 p.dport] rfl rfl (World.news_of_block (heap_alloc_new _ _)) (by simp [Value.oneCell']) (by omega) (by unfold maxLen; omega) (by omega) (by simp; omega) (Y.heap.size + 1) (by simp) ?_; intro g cap z hown hgrow hat hlt2)
      have JN : Hid (PoJ w X (w.heap.size + 1) t.lo n p (n - (k + 1)) (.slice (some ⟨g, 0, none⟩) (k + 1) cap) (.int .u64 ((t.lo + (k + 1) : Nat) : Int)) z) := Lib.hid (by
        have kg : Kp (fun b => (Value.slice a5 k k5).ownBlock = some b) Y z := grown_no (Kp.alloc _) hgrow
        refine ⟨k + 1, x, by have := HLT.out; omega, rfl, ?_, ?_, KY.out.trans (A' := fun b => (Value.slice a5 k k5).ownBlock = some b) (fun b h => .inr (by have := (OY.out.lt b h).1; have := ZX.out; omega)) kg⟩
        · rw [poolP_succ, List.flatMap_append]
          have e : [({ p with src := t.lo + k } : Pkt)].flatMap pkC = [.int .u32 (x : Int), .int .u32 (p.dst : Int), .int .i64 p.proto, .int .i64 p.sport, .int .i64 p.dport] := by
            rw [HX.out]; rfl
          rw [e]
          exact hown
        · exact (kg.block _ (heap_lt PY.out) (fun h => by have := (OY.out.lt _ h).1; omega)).trans PY.out)
      obtain ⟨x1, hx1⟩ : ∃ x1, x1 = x + 1 := ⟨_, rfl⟩
      have s1 : (x : Int) + 1 = (x1 : Int) := by omega
      have s2 : ((t.lo + (k + 1) : Nat) : Int) = (x1 : Int) := by have := HX.out; omega
      rw [s2] at JN
      clear s2 hx1 hown hgrow hat hlt2 own1 e0 e1 e2 e3 e4
      go_wp2
      go_roundg (n - (k + 1))
      case measure => have := HK.out; have := HLT.out; omega
      case rel => exact JN.out
    · obtain rfl : k = n := by have := HK.out; omega
      have hge : ¬ (x : Int) ≤ (t.hi : Int) := by have := HX.out; have := HN.out; omega
      have RET : Hid (∃ v, Ending.returned (.slice a5 k k5) = .returned v ∧ PksIn wr v (poolP t.lo k p) ∧ Kp No w wr ∧ (∀ b, v.ownBlock = some b → w.heap.size ≤ b)) := Lib.hid (by
        refine ⟨_, rfl, PksIn.of_row OWN.out (by unfold poolP; simp) (by unfold poolP; simp; have := HN.out; omega), KX.out.trans (A' := fun b => b = w.heap.size + 1) (fun b e => .inr (by omega)) KP.out, fun b h => by have := (OWN.out.lt b h).1; omega⟩)
      clear hlt hn8 h1 h2 h3
      go_wp2
      go_ret
      exact RET.out
/-- The way through the translations. -/
def SrJ (X : World) (ac : ByteArray → List Ru) (ts : List Tr) (p : Pkt) (gk : Nat) (s : Value) (x : World) : Prop := ∃ k : Nat, k + gk = ts.length ∧ s = .int .i64 (k : Int) ∧ Kp No X x ∧ pkSrc ac ts p = pkSrc ac (ts.drop k) p
def SrPost (w : World) (l : List Pkt) (e : Ending) (w' : World) : Prop := ∃ v, e = .returned v ∧ PksIn w' v l ∧ Kp No w w' ∧ (∀ b, v.ownBlock = some b → w.heap.size ≤ b)
theorem SrPost.one {w Y : World} {q : Pkt} (k : Kp No w Y) : SrPost w [q] (.returned (.slice (some ⟨Y.heap.size, 0, none⟩) 1 1)) (Y.alloc (.cells #[.int .u32 (q.src : Int), .int .u32 (q.dst : Int), .int .i64 q.proto, .int .i64 q.sport, .int .i64 q.dport] 45)) :=
  ⟨_, rfl, PksIn.one (heap_alloc_new _ _), k.trans_no (Kp.alloc _), fun b h => by cases h; exact k.size⟩
set_option maxRecDepth 1000000 in
set_option maxHeartbeats 8000000 in
theorem NSource_ok (cs : Array Value) (hcs : cs.size = 25) (ts : List Tr) (hok : ∀ t, t ∈ ts → t.ok) (acs : List (ByteArray × List Ru)) (hro : ∀ x, x ∈ acs → ∀ y, y ∈ x.2 → y.ok) (p : Pkt) (hp : p.in32) (w : World) {q : Nat} {L : Lay} (hn : NatAt w q L cs ts) (ha : AcAt w q L cs acs) :
    Calls Tryz.prog 11 #[.agg cs, pktV p] w (SrPost w (pkSrc (acG acs) ts p)) := by
  have HN := Lib.hid hn
  have HA := Lib.hid ha
  have HCS := Lib.hid hcs
  have HOK := Lib.hid hok
  have PM := Lib.hid (fun (y : World) (h : AcAt y q L cs acs) (s : ByteArray) => Permits_ok cs hcs acs s p hp hro y h)
  have PO := Lib.hid (fun (t : Tr) (h1 : t.lo ≤ t.hi) (h2 : t.hi - t.lo < 8) (h3 : t.hi < 4294967296) (y : World) => pool_ok t h1 h2 h3 p y)
  obtain ⟨ao, cp, hcs6, hcp1, hcp2, _⟩ := hn
  have HC6 := Lib.hid hcs6
  have h0 := heap_alloc_new w (.cells cs 41)
  have k0 : Kp No w (w.alloc (.cells cs 41)) := Kp.alloc _
  have z0 : (w.alloc (.cells cs 41)).heap.size = w.heap.size + 1 := by simp
  have hli : (ts.length : Int) ≤ 9223372036854775807 := by omega
  clear hcs6 hcs ha hok hro hp
  unfold pktV at *
  go_enter Tryz.func11, Tryz.ntmps11
  go_upto_region 1 with fail
  generalize w.alloc (.cells cs 41) = X0 at *
  have h1 : PkB (X0.alloc (.cells #[.int .u32 (p.src : Int), .int .u32 (p.dst : Int), .int .i64 p.proto, .int .i64 p.sport, .int .i64 p.dport] 45)) X0.heap.size p := heap_alloc_new X0 _
  have k1 := Kp.alloc (w := X0) (.cells #[.int .u32 (p.src : Int), .int .u32 (p.dst : Int), .int .i64 p.proto, .int .i64 p.sport, .int .i64 p.dport] 45)
  rw [z0] at h1
  generalize X0.alloc (.cells #[.int .u32 (p.src : Int), .int .u32 (p.dst : Int), .int .i64 p.proto, .int .i64 p.sport, .int .i64 p.dport] 45) = X at *
  have RX := Lib.hid ((k1.block _ (heap_lt h0) (fun h => h)).trans h0)
  have PX := Lib.hid h1
  have KX := Lib.hid (k0.trans_no k1)
  have f6 : X.cell? ⟨w.heap.size, 6, none⟩ = some (.slice ao ts.length cp) := by rw [cell_of_row _ _ _ _ _ _ RX.out]; exact HC6.out
  clear h0 h1 k0 k1 z0
  go_wp2
  go_loopg [10] ts.length (fun gk s x => SrJ X (acG acs) ts p gk s x)
  case atStart => exact ⟨0, by omega, rfl, Kp.refl _ _, rfl⟩
  case round =>
    clear f6
    obtain ⟨k, hk, rfl, kp, hno⟩ := hrel
    have HK := Lib.hid hk
    have KP := Lib.hid kp
    have HNO := Lib.hid hno
    clear hno hk
    have PW := Lib.hid (PX.out.no kp)
    by_cases hlt : k < ts.length
    · have hlti : (k : Int) < ts.length := by omega
      have HLT := Lib.hid hlt
      obtain ⟨ao', cp', e6, _, _, hc3⟩ := HN.out.no (KX.out.trans_no kp)
      rw [HC6.out] at e6
      cases e6
      rcases hc3 with h0 | ⟨g, o, rfl, hg, _, hc⟩
      · exact absurd h0 (by omega)
      obtain ⟨c0, c1, c2, c3, c4, c5, c6, c7, c8⟩ := hc k ts[k] (List.getElem?_eq_getElem hlt)
      have ST : Hid (pkSrc (acG acs) ts p = if ts[k].k = 1 ∧ ts[k].i = p.src then [{ p with src := ts[k].o }] else if ts[k].k = 2 ∧ pmB (acG acs) ts[k].nm p = true then poolP ts[k].lo (ts[k].hi - ts[k].lo + 1) p else if ts[k].k = 3 ∧ ts[k].i = p.src ∧ ts[k].pr = p.proto ∧ ts[k].ip = p.sport then [{ p with src := ts[k].o, sport := ts[k].op }] else pkSrc (acG acs) (ts.drop (k + 1)) p) := Lib.hid (by
        rw [HNO.out, List.drop_eq_getElem_cons hlt]; rfl)
      have OKT := Lib.hid (HOK.out ts[k] (List.getElem_mem hlt))
      generalize ts[k] = t at *
      have nb := heap_alloc_new wr (.cells #[.int .i64 t.k, .int .u32 (t.i : Int), .int .u32 (t.o : Int), .int .i64 t.pr, .int .i64 t.ip, .int .i64 t.op, .string t.nm, .int .u32 (t.lo : Int), .int .u32 (t.hi : Int)] 64)
      have kn := Kp.alloc (w := wr) (.cells #[.int .i64 t.k, .int .u32 (t.i : Int), .int .u32 (t.o : Int), .int .i64 t.pr, .int .i64 t.ip, .int .i64 t.op, .string t.nm, .int .u32 (t.lo : Int), .int .u32 (t.hi : Int)] 64)
      have KZ := Lib.hid (kp.trans_no kn)
      clear kp hg hc
      go_upto_region 4 with fail
      clear c0 c1 c2 c3 c4 c5 c6 c7 c8
      generalize wr.alloc (.cells #[.int .i64 t.k, .int .u32 (t.i : Int), .int .u32 (t.o : Int), .int .i64 t.pr, .int .i64 t.ip, .int .i64 t.op, .string t.nm, .int .u32 (t.lo : Int), .int .u32 (t.hi : Int)] 64) = Z at *
      have NB := Lib.hid nb
      have PZ := Lib.hid (PX.out.no KZ.out)
      have RZ := Lib.hid ((KZ.out.block _ (heap_lt RX.out) (fun h => h)).trans RX.out)
      obtain ⟨d0, d1, d2, d3, d4, d5, d6, d7, d8⟩ := cel9 nb
      obtain ⟨e0, e1, e2, e3, e4⟩ := PZ.out.c
      clear nb kn
      have frz := PZ.out.z
      have KIN := OKT.out.kinds
      rcases KIN with q0 | ⟨q0, q1, q2⟩ | ⟨q0, _⟩
      · by_cases q3 : t.i = p.src
        · have RES : Hid (pkSrc (acG acs) ts p = [{ p with src := t.o }]) := Lib.hid (by rw [ST.out, if_pos ⟨q0, q3⟩])
          clear ST
          have q3c : (t.i : Int) = (p.src : Int) := by omega
          go_upto_region 6 with fail
          have P1 : PkB (Z.setCell ⟨w.heap.size + 1, 0, none⟩ (.int .u32 (t.o : Int))) (w.heap.size + 1) { p with src := t.o } := by
            unfold PkB
            rw [setCell_heap PZ.out]; rfl
          have k1 := Kp.setCell (w := Z) ⟨w.heap.size + 1, 0, none⟩ (.int .u32 (t.o : Int))
          generalize Z.setCell ⟨w.heap.size + 1, 0, none⟩ (.int .u32 (t.o : Int)) = Y at *
          have KY := Lib.hid ((KX.out.trans_no KZ.out).trans (A' := fun b => b = w.heap.size + 1) (fun b e => .inr (by omega)) k1)
          have RET : Hid (SrPost w (pkSrc (acG acs) ts p) (.returned (.slice (some ⟨Y.heap.size, 0, none⟩) 1 1)) (Y.alloc (.cells #[.int .u32 (t.o : Int), .int .u32 (p.dst : Int), .int .i64 p.proto, .int .i64 p.sport, .int .i64 p.dport] 45))) := Lib.hid (by rw [RES.out]; exact SrPost.one (q := { p with src := t.o }) KY.out)
          clear d0 d1 d2 d3 d4 d5 d6 d7 d8 e0 e1 e2 e3 e4 frz k1 q0 q3 q3c
          obtain ⟨e0, e1, e2, e3, e4⟩ := P1.c
          dsimp only at e0 e1 e2 e3 e4
          clear P1
          go_wp2
          go_ret
          exact RET.out
        · have NX : Hid (pkSrc (acG acs) ts p = pkSrc (acG acs) (ts.drop (k + 1)) p) := Lib.hid (by rw [ST.out, if_neg (fun h => q3 h.2), if_neg (fun h => by have := h.1; omega), if_neg (fun h => by have := h.1; omega)])
          clear ST
          have q3c : ¬ ((t.i : Int) = (p.src : Int)) := by omega
          clear q3
          go_wp2
          go_roundg (ts.length - (k + 1))
          case measure => have := HK.out; have := HLT.out; omega
          case rel => exact ⟨k + 1, by have := HK.out; have := HLT.out; omega, by go_num, KZ.out, NX.out⟩
      · have q5 : t.k ≠ 1 := by omega
        have q6 : t.k ≠ 3 := by omega
        have PMZ := Lib.hid (PM.out Z (HA.out.no (KX.out.trans_no KZ.out)) t.nm)
        have q1' := OKT.out.hi
        have POZ := Lib.hid (fun (y : World) => PO.out t q1 q2 q1' y)
        unfold Tr.v at POZ
        rw [q0] at POZ
        obtain ⟨b, hb⟩ : ∃ b, pmB (acG acs) t.nm p = b := ⟨_, rfl⟩
        rw [hb] at PMZ
        clear q1 q2 q1'
        go_upto_region 7 with fail
        go_wp2_with (first | (refine wpList_load_rt rfl _ rfl w.heap.size rfl cs HCS.out RZ.out ?_))
        refine PMZ.out.mono ?_
        rintro e y ⟨rfl, ky⟩
        have KY := Lib.hid (KZ.out.trans_no ky)
        have NY := Lib.hid ((ky.block _ (heap_lt NB.out) (fun h => h)).trans NB.out)
        have PY := Lib.hid (PZ.out.no ky)
        clear d0 d1 d2 d3 d4 d5 d6 d7 d8 e0 e1 e2 e3 e4 frz ky
        obtain ⟨d0, d1, d2, d3, d4, d5, d6, d7, d8⟩ := cel9 NY.out
        obtain ⟨e0, e1, e2, e3, e4⟩ := PY.out.c
        cases b
        · have NX : Hid (pkSrc (acG acs) ts p = pkSrc (acG acs) (ts.drop (k + 1)) p) := Lib.hid (by rw [ST.out, if_neg (fun h => by have := h.1; omega), if_neg (fun h => by rw [hb] at h; exact absurd h.2 (by decide)), if_neg (fun h => by have := h.1; omega)])
          clear ST hb
          go_wp2
          go_roundg (ts.length - (k + 1))
          case measure => have := HK.out; have := HLT.out; omega
          case rel => exact ⟨k + 1, by have := HK.out; have := HLT.out; omega, by go_num, KY.out, NX.out⟩
        · have RES : Hid (pkSrc (acG acs) ts p = poolP t.lo (t.hi - t.lo + 1) p) := Lib.hid (by rw [ST.out, if_neg (fun h => by have := h.1; omega), if_pos ⟨q0, hb⟩])
          clear ST hb
          go_wp2_with fail
          refine (POZ.out _).mono ?_
          rintro e z ⟨v, rfl, hv, kz, ob⟩
          have RET : Hid (SrPost w (pkSrc (acG acs) ts p) (.returned v) z) := Lib.hid (by
            rw [RES.out]
            exact ⟨v, rfl, hv, (KX.out.trans_no KY.out).trans_no kz, fun b h => by have := ob b h; have := (KX.out.trans_no KY.out).size; omega⟩)
          clear hv kz ob d0 d1 d2 d3 d4 d5 d6 d7 d8 e0 e1 e2 e3 e4
          go_wp2
          go_ret
          exact RET.out
      · have q5 : t.k ≠ 1 := by omega
        have q6 : t.k ≠ 2 := by omega
        by_cases q3 : t.i = p.src ∧ t.pr = p.proto ∧ t.ip = p.sport
        · have RES : Hid (pkSrc (acG acs) ts p = [{ p with src := t.o, sport := t.op }]) := Lib.hid (by rw [ST.out, if_neg (fun h => q5 h.1), if_neg (fun h => q6 h.1), if_pos ⟨q0, q3⟩])
          clear ST
          obtain ⟨q3a, q3b, q3d⟩ := q3
          have q3e : (t.i : Int) = (p.src : Int) := by omega
          go_upto_region 10 with fail
          have N0 := (Kp.drew (w := Z)).block _ (heap_lt NB.out) (fun h => h) |>.trans NB.out
          have P0 := PZ.out.no (Kp.drew (w := Z))
          have K0 := KZ.out.trans_no (Kp.drew (w := Z))
          clear d0 d1 d2 d3 d4 d5 d6 d7 d8 e0 e1 e2 e3 e4 frz q0 q5 q6 q3a q3b q3d q3e
          refine wp_region_held_drew (S := fun y => y.cell? ⟨wr.heap.size, 2, none⟩ = some (.int .u32 (t.o : Int)) ∧ y.cell? ⟨wr.heap.size, 5, none⟩ = some (.int .i64 t.op)) (by kernel_rfl) ⟨by rw [cell_of_row _ _ _ _ _ _ N0]; rfl, by rw [cell_of_row _ _ _ _ _ _ N0]; rfl⟩ (fun hS => ?_)
          generalize Z.drew = Y0 at *
          have hwr := KX.out.size
          have hwx := KP.out.size
          have hxx := heap_lt PX.out
          refine tk 0 hS ?_
          refine tk 1 hS ?_
          refine tk 2 hS ?_
          refine tk 3 hS ?_
          refine tk 4 hS ?_
          refine op1 5 (fun K hK => ?_)
          have lc := P0.c.1
          have lz := P0.z 0
          go_simp
          clear lc lz
          have n1 : wr.heap.size ≠ w.heap.size + 1 := by omega
          have N1 : (Y0.setCell ⟨w.heap.size + 1, 0, none⟩ (.int .u32 (t.o : Int))).heap[wr.heap.size]? = some (.cells #[.int .i64 t.k, .int .u32 (t.i : Int), .int .u32 (t.o : Int), .int .i64 t.pr, .int .i64 t.ip, .int .i64 t.op, .string t.nm, .int .u32 (t.lo : Int), .int .u32 (t.hi : Int)] 64 (0, 0)) := by rw [Below.heap_setCell _ _ _ _ n1]; exact N0
          have P1 : PkB (Y0.setCell ⟨w.heap.size + 1, 0, none⟩ (.int .u32 (t.o : Int))) (w.heap.size + 1) { p with src := t.o } := by
            unfold PkB
            rw [setCell_heap P0]; rfl
          have k1 := Kp.setCell (w := Y0) ⟨w.heap.size + 1, 0, none⟩ (.int .u32 (t.o : Int))
          refine hK.out _ _ ⟨by rw [cell_of_row _ _ _ _ _ _ N1]; rfl, by rw [cell_of_row _ _ _ _ _ _ N1]; rfl⟩ (fun hHeld => ?_)
          clear hK K hS
          have hS := hHeld
          clear hHeld
          try simp only [Act.put, List.setIfInBounds_toArray, List.set_cons_zero, List.set_cons_succ]
          have KY1 := (KX.out.trans_no K0).trans (A' := fun b => b = w.heap.size + 1) (fun b e => .inr (by omega)) k1
          generalize Y0.setCell ⟨w.heap.size + 1, 0, none⟩ (.int .u32 (t.o : Int)) = Y1 at *
          refine tk 6 hS ?_
          refine op1 7 (fun K hK => ?_)
          have lc := P1.c.2.2.2.1
          have lz := P1.z 3
          dsimp only at lc lz
          go_simp
          clear lc lz
          have N2 : (Y1.setCell ⟨w.heap.size + 1, 3, none⟩ (.int .i64 t.op)).heap[wr.heap.size]? = some (.cells #[.int .i64 t.k, .int .u32 (t.i : Int), .int .u32 (t.o : Int), .int .i64 t.pr, .int .i64 t.ip, .int .i64 t.op, .string t.nm, .int .u32 (t.lo : Int), .int .u32 (t.hi : Int)] 64 (0, 0)) := by rw [Below.heap_setCell _ _ _ _ n1]; exact N1
          have P2 : PkB (Y1.setCell ⟨w.heap.size + 1, 3, none⟩ (.int .i64 t.op)) (w.heap.size + 1) { p with src := t.o, sport := t.op } := by
            unfold PkB
            rw [setCell_heap P1]; rfl
          have k2 := Kp.setCell (w := Y1) ⟨w.heap.size + 1, 3, none⟩ (.int .i64 t.op)
          refine hK.out _ _ ⟨by rw [cell_of_row _ _ _ _ _ _ N2]; rfl, by rw [cell_of_row _ _ _ _ _ _ N2]; rfl⟩ (fun hHeld => ?_)
          clear hK K hS hHeld
          try simp only [Act.put, List.setIfInBounds_toArray, List.set_cons_zero, List.set_cons_succ]
          have KY := Lib.hid (KY1.trans (A' := fun b => b = w.heap.size + 1) (fun b e => .inr (by omega)) k2)
          generalize Y1.setCell ⟨w.heap.size + 1, 3, none⟩ (.int .i64 t.op) = Y at *
          refine wpAnyH_done (by kernel_rfl) ?_ _
          have RET : Hid (SrPost w (pkSrc (acG acs) ts p) (.returned (.slice (some ⟨Y.heap.size, 0, none⟩) 1 1)) (Y.alloc (.cells #[.int .u32 (t.o : Int), .int .u32 (p.dst : Int), .int .i64 p.proto, .int .i64 t.op, .int .i64 p.dport] 45))) := Lib.hid (by rw [RES.out]; exact SrPost.one (q := { p with src := t.o, sport := t.op }) KY.out)
          clear N0 P0 K0 N1 P1 k1 KY1 N2 k2 hwr hwx hxx n1
          obtain ⟨e0, e1, e2, e3, e4⟩ := P2.c
          dsimp only at e0 e1 e2 e3 e4
          clear P2
          go_wp2
          go_ret
          exact RET.out
        · have NX : Hid (pkSrc (acG acs) ts p = pkSrc (acG acs) (ts.drop (k + 1)) p) := Lib.hid (by rw [ST.out, if_neg (fun h => q5 h.1), if_neg (fun h => q6 h.1), if_neg (fun h => q3 h.2)])
          clear ST
          have q3' : ¬ ((t.i : Int) = (p.src : Int)) ∨ ((t.i : Int) = (p.src : Int) ∧ t.pr ≠ p.proto) ∨ ((t.i : Int) = (p.src : Int) ∧ t.pr = p.proto ∧ t.ip ≠ p.sport) := by omega
          clear q3
          rcases q3' with q4 | ⟨q4, q7⟩ | ⟨q4, q7, q8⟩
          all_goals
            go_wp2
            (go_roundg (ts.length - (k + 1))
             case measure => have := HK.out; have := HLT.out; omega
             case rel => exact ⟨k + 1, by have := HK.out; have := HLT.out; omega, by go_num, KZ.out, NX.out⟩)
    · obtain rfl : k = ts.length := by have := HK.out; omega
      have RES : Hid (pkSrc (acG acs) ts p = [p]) := Lib.hid (by rw [HNO.out, List.drop_length]; rfl)
      have hge : ¬ (ts.length : Int) < ts.length := by omega
      have RET : Hid (SrPost w (pkSrc (acG acs) ts p) (.returned (.slice (some ⟨wr.heap.size, 0, none⟩) 1 1)) (wr.alloc (.cells #[.int .u32 (p.src : Int), .int .u32 (p.dst : Int), .int .i64 p.proto, .int .i64 p.sport, .int .i64 p.dport] 45))) := Lib.hid (by rw [RES.out]; exact SrPost.one (KX.out.trans_no KP.out))
      obtain ⟨e0, e1, e2, e3, e4⟩ := PW.out.c
      clear kp hlt
      go_wp2
      go_ret
      exact RET.out
end Go.Proofs.YtcebhlhpmdladaaGreatDoor
