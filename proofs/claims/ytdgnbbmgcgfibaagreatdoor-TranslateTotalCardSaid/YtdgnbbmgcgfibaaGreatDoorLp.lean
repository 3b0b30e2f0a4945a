/-
  Walks: the checks of a router that go through a list (printed by gen_lp.py).
-/
import Derived.Test.YtdgnbbmgcgfibaaGreatDoorLf
import Derived.Test.YtdgnbbmgcgfibaaGreatDoorHpm
import Derived.Deep.RegionHeld3
import Derived.Deep.QuietTactic
import Derived.BigQuiet
namespace Go.Proofs.YtdgnbbmgcgfibaaGreatDoor
open Go.RowKit

/-- A call answers a truth value and changes nothing that was there. -/
def AnyB (w : World) (e : Ending) (w' : World) : Prop := ∃ b, e = .returned (.bool b) ∧ Kp No w w'
/-- A call answers a number of an error. -/
def AnyE (w : World) (e : Ending) (w' : World) : Prop := ∃ n : Int, e = .returned (.int .i64 n) ∧ Kp No w w'

/-- The same, and the world is the same. -/
def SamB (w : World) (e : Ending) (w' : World) : Prop := ∃ b, e = .returned (.bool b) ∧ w = w'

def wiB (n a b : Int) : Bool := decide (a ≤ n ∧ n ≤ b)
theorem within_ok (n a b : Int) (w : World) : Calls Tryz.prog 43 #[.int .i64 n, .int .i64 a, .int .i64 b] w fun e w' => e = .returned (.bool (wiB n a b)) ∧ w = w' := by
  by_cases h1 : a ≤ n
  · by_cases h2 : n ≤ b
    · rw [show wiB n a b = true from decide_eq_true ⟨h1, h2⟩]
      go_enter Tryz.func43, Tryz.ntmps43
      go_wp2
      go_ret
      exact ⟨rfl, rfl⟩
    · rw [show wiB n a b = false from decide_eq_false (fun h => h2 h.2)]
      go_enter Tryz.func43, Tryz.ntmps43
      go_wp2
      go_ret
      exact ⟨rfl, rfl⟩
  · rw [show wiB n a b = false from decide_eq_false (fun h => h1 h.1)]
    go_enter Tryz.func43, Tryz.ntmps43
    go_wp2
    go_ret
    exact ⟨rfl, rfl⟩
theorem digit_any (n : Int) (w : World) : Calls Tryz.prog 76 #[.int .u8 n] w (SamB w) := by
  go_enter Tryz.func76, Tryz.ntmps76
  go_wp2
  all_goals (go_ret; exact ⟨_, rfl, rfl⟩)
theorem letter_any (n : Int) (w : World) : Calls Tryz.prog 75 #[.int .u8 n] w (SamB w) := by
  go_enter Tryz.func75, Tryz.ntmps75
  go_wp2
  all_goals (go_ret; exact ⟨_, rfl, rfl⟩)
/-- The letters of a name. -/
def NmI (w : World) (n gk : Nat) (s3 : Value) (x : World) : Prop := ∃ k, k + gk = n ∧ s3 = .int .i64 (k : Int) ∧ w = x
set_option maxHeartbeats 1000000 in
theorem Name_any (s : ByteArray) (w : World) : Calls Tryz.prog 42 #[.string s] w (SamB w) := by
  by_cases h1 : s.size < 1
  · go_enter Tryz.func42, Tryz.ntmps42
    go_wp2
    all_goals (go_ret; exact ⟨_, rfl, rfl⟩)
  by_cases h2 : 15 < s.size
  · go_enter Tryz.func42, Tryz.ntmps42
    go_wp2
    all_goals (go_ret; exact ⟨_, rfl, rfl⟩)
  have LE := Lib.hid (fun (n : Int) => letter_any n w)
  have DI := Lib.hid (fun (n : Int) => digit_any n w)
  go_enter Tryz.func42, Tryz.ntmps42
  go_wp2_with fail
  refine (LE.out _).mono ?_
  rintro e w' ⟨b, rfl, rfl⟩
  cases b
  · go_wp2
    go_ret
    exact ⟨_, rfl, rfl⟩
  · go_wp2
    go_loopg [3] (s.size - 1) (fun gk s3 x => NmI w s.size gk s3 x)
    case atStart => exact ⟨1, by omega, rfl, rfl⟩
    case round =>
      obtain ⟨k, hk, rfl, rfl⟩ := hrel
      by_cases hlt : k < s.size
      · have HK := Lib.hid hk
        clear hk
        go_wp2_with fail
        refine (LE.out _).mono ?_
        rintro e w' ⟨b, rfl, rfl⟩
        cases b
        · go_wp2_with fail
          refine (DI.out _).mono ?_
          rintro e w' ⟨b, rfl, rfl⟩
          cases b
          · go_wp2
            all_goals first
              | (go_ret; exact ⟨_, rfl, rfl⟩)
              | (go_roundg (s.size - (k + 1))
                 case measure => have := HK.out; omega
                 case rel => exact ⟨k + 1, by omega, by go_num, rfl⟩)
          · go_wp2
            go_roundg (s.size - (k + 1))
            case measure => have := HK.out; omega
            case rel => exact ⟨k + 1, by omega, by go_num, rfl⟩
        · go_wp2
          go_roundg (s.size - (k + 1))
          case measure => have := HK.out; omega
          case rel => exact ⟨k + 1, by omega, by go_num, rfl⟩
      · obtain rfl : k = s.size := by omega
        clear hk
        go_wp2
        go_ret
        exact ⟨_, rfl, rfl⟩
theorem checkList_any (k f : Int) (s : ByteArray) (n m : Int) (w : World) : Calls Tryz.prog 81 #[.int .i64 k, .int .i64 f, .string s, .int .i64 n, .int .i64 m] w fun e w' => ∃ b : Int, e = .returned (.int .i64 b) ∧ w = w' ∧ (b = 0 → n ≠ 0 ∧ n ≤ m) := by
  have NM := Lib.hid (Name_any s w)
  go_enter Tryz.func81, Tryz.ntmps81
  go_wp2_with fail
  refine NM.out.mono ?_
  rintro e w' ⟨b, rfl, rfl⟩
  cases b
  · go_wp2
    go_ret
    exact ⟨_, rfl, rfl, by omega⟩
  · go_wp2
    all_goals (go_ret; refine ⟨_, rfl, rfl, fun h => ?_⟩; first | omega | simp_all)

end Go.Proofs.YtdgnbbmgcgfibaaGreatDoor

namespace Go.Proofs.YtdgnbbmgcgfibaaGreatDoor
open Go.RowKit

def rpB (lo hi : Int) : Bool := decide (0 ≤ lo ∧ lo ≤ hi ∧ hi ≤ 65535)
theorem rightPorts_ok (lo hi : Int) (w : World) : Calls Tryz.prog 120 #[.agg #[.int .i64 lo, .int .i64 hi]] w fun e w' => e = .returned (.bool (rpB lo hi)) ∧ Kp No w w' := by
  by_cases h1 : 0 ≤ lo
  · by_cases h2 : lo ≤ hi
    · by_cases h3 : hi ≤ 65535
      · rw [show rpB lo hi = true from decide_eq_true ⟨h1, h2, h3⟩]
        go_enter Tryz.func120, Tryz.ntmps120
        go_wp2
        go_ret
        exact ⟨rfl, Kp.alloc _⟩
      · rw [show rpB lo hi = false from decide_eq_false (fun h => h3 h.2.2)]
        go_enter Tryz.func120, Tryz.ntmps120
        go_wp2
        go_ret
        exact ⟨rfl, Kp.alloc _⟩
    · rw [show rpB lo hi = false from decide_eq_false (fun h => h2 h.2.1)]
      go_enter Tryz.func120, Tryz.ntmps120
      go_wp2
      go_ret
      exact ⟨rfl, Kp.alloc _⟩
  · rw [show rpB lo hi = false from decide_eq_false (fun h => h1 h.1)]
    go_enter Tryz.func120, Tryz.ntmps120
    go_wp2
    go_ret
    exact ⟨rfl, Kp.alloc _⟩

theorem rightClause_any (a0 : Bool) (a1 : ByteArray) (a2 : Int) (a3 : Int) (a4 : Int) (a5 : Int) (a6 : Int) (w : World) : Calls Tryz.prog 84 #[.agg #[.bool a0, .string a1, .int .i64 a2, .int .i64 a3, .int .i64 a4, .int .i64 a5, .int .i64 a6]] w (AnyB w) := by
  go_enter Tryz.func84, Tryz.ntmps84
  go_wp2_with fail
  refine (within_ok _ _ _ _).mono ?_
  rintro e y ⟨rfl, rfl⟩
  generalize HB0 : wiB a2 (-1) 65535 = b0
  cases b0
  · go_wp2
    go_ret
    exact ⟨_, rfl, Kp.alloc _⟩
  · skip
    go_wp2_with fail
    refine (within_ok _ _ _ _).mono ?_
    rintro e y ⟨rfl, rfl⟩
    generalize HB1 : wiB a3 (-1) 16777215 = b1
    cases b1
    · go_wp2
      go_ret
      exact ⟨_, rfl, Kp.alloc _⟩
    · skip
      go_wp2_with fail
      refine (within_ok _ _ _ _).mono ?_
      rintro e y ⟨rfl, rfl⟩
      generalize HB2 : wiB a4 (-1) 65535 = b2
      cases b2
      · go_wp2
        go_ret
        exact ⟨_, rfl, Kp.alloc _⟩
      · skip
        go_wp2_with fail
        refine (within_ok _ _ _ _).mono ?_
        rintro e y ⟨rfl, rfl⟩
        generalize HB3 : wiB a5 (-1) 1000000 = b3
        cases b3
        · go_wp2
          go_ret
          exact ⟨_, rfl, Kp.alloc _⟩
        · skip
          go_wp2_with fail
          refine (within_ok _ _ _ _).mono ?_
          rintro e y ⟨rfl, rfl⟩
          generalize HB4 : wiB a6 (0) 8 = b4
          cases b4
          · go_wp2
            go_ret
            exact ⟨_, rfl, Kp.alloc _⟩
          · skip
            go_wp2
            go_ret
            exact ⟨_, rfl, Kp.alloc _⟩
set_option maxHeartbeats 1000000 in
theorem rightInterface_any (a0 : ByteArray) (a1 : Nat) (a2 : Int) (a3 : Int) (a4 : Bool) (a5 : Bool) (a6 : Int) (a7 : Int) (a8 : Bool) (a9 : ByteArray) (a10 : ByteArray) (a11 : Int) (w : World) : Calls Tryz.prog 78 #[.agg #[.string a0, .int .u32 (a1 : Int), .int .i64 a2, .int .i64 a3, .bool a4, .bool a5, .int .i64 a6, .int .i64 a7, .bool a8, .string a9, .string a10, .int .i64 a11]] w (AnyB w) := by
  go_enter Tryz.func78, Tryz.ntmps78
  go_wp2_with fail
  refine (within_ok _ _ _ _).mono ?_
  rintro e y ⟨rfl, rfl⟩
  generalize HB0 : wiB a2 (0) 32 = b0
  cases b0
  · go_wp2
    go_ret
    exact ⟨_, rfl, Kp.alloc _⟩
  · skip
    go_wp2_with fail
    refine (within_ok _ _ _ _).mono ?_
    rintro e y ⟨rfl, rfl⟩
    generalize HB1 : wiB a3 (0) 4094 = b1
    cases b1
    · go_wp2
      go_ret
      exact ⟨_, rfl, Kp.alloc _⟩
    · skip
      go_wp2_with fail
      refine (within_ok _ _ _ _).mono ?_
      rintro e y ⟨rfl, rfl⟩
      generalize HB2 : wiB a11 (0) 2 = b2
      cases b2
      · go_wp2
        go_ret
        exact ⟨_, rfl, Kp.alloc _⟩
      · skip
        go_wp2_with fail
        all_goals first
          | (go_ret; exact ⟨_, rfl, Kp.alloc _⟩)
          | (refine (within_ok _ _ _ _).mono ?_
             rintro e y ⟨rfl, rfl⟩
             generalize wiB a6 0 255 = b4
             cases b4
             · go_wp2
               go_ret
               exact ⟨_, rfl, Kp.alloc _⟩
             · go_wp2_with fail
               refine (within_ok _ _ _ _).mono ?_
               rintro e y ⟨rfl, rfl⟩
               go_wp2
               go_ret
               exact ⟨_, rfl, Kp.alloc _⟩)

theorem Covers_any (a0 : Nat) (a1 : Int) (b0 : Nat) (b1 : Int) (hb : b0 < 4294967296) (w : World) : Calls Tryz.prog 115 #[.agg #[.int .u32 (a0 : Int), .int .i64 a1], .agg #[.int .u32 (b0 : Int), .int .i64 b1]] w (AnyB w) := by
  have CO := Lib.hid (fun y => Contains_ok a0 a1 b0 hb y)
  by_cases h : a1 ≤ b1
  · go_enter Tryz.func115, Tryz.ntmps115
    go_wp2_with fail
    refine (CO.out _).mono ?_
    rintro e y ⟨rfl, k⟩
    go_wp2
    go_ret
    exact ⟨_, rfl, ((Kp.alloc _).trans_no (Kp.alloc _)).trans_no k⟩
  · go_enter Tryz.func115, Tryz.ntmps115
    go_wp2
    go_ret
    exact ⟨_, rfl, (Kp.alloc _).trans_no (Kp.alloc _)⟩
theorem Overlaps_any (a0 : Nat) (a1 : Int) (b0 : Nat) (b1 : Int) (ha : a0 < 4294967296) (hb : b0 < 4294967296) (w : World) : Calls Tryz.prog 79 #[.agg #[.int .u32 (a0 : Int), .int .i64 a1], .agg #[.int .u32 (b0 : Int), .int .i64 b1]] w (AnyB w) := by
  have C1 := Lib.hid (fun y => Covers_any a0 a1 b0 b1 hb y)
  have C2 := Lib.hid (fun y => Covers_any b0 b1 a0 a1 ha y)
  have KA := Lib.hid ((Kp.alloc (w := w) (.cells #[.int .u32 (a0 : Int), .int .i64 a1] 44)).trans_no (Kp.alloc (.cells #[.int .u32 (b0 : Int), .int .i64 b1] 44)))
  have c0 := heap_alloc_new w (.cells #[.int .u32 (a0 : Int), .int .i64 a1] 44)
  have c1 := heap_alloc_new (w.alloc (.cells #[.int .u32 (a0 : Int), .int .i64 a1] 44)) (.cells #[.int .u32 (b0 : Int), .int .i64 b1] 44)
  have CELL : Hid (∀ y, Kp No ((w.alloc (.cells #[.int .u32 (a0 : Int), .int .i64 a1] 44)).alloc (.cells #[.int .u32 (b0 : Int), .int .i64 b1] 44)) y → y.cell? ⟨w.heap.size, 0, none⟩ = some (.int .u32 (a0 : Int)) ∧ y.cell? ⟨w.heap.size, 1, none⟩ = some (.int .i64 a1) ∧ y.cell? ⟨w.heap.size + 1, 0, none⟩ = some (.int .u32 (b0 : Int)) ∧ y.cell? ⟨w.heap.size + 1, 1, none⟩ = some (.int .i64 b1)) := Lib.hid (fun y k => by
    have k1 := (Kp.alloc (w := w.alloc (.cells #[.int .u32 (a0 : Int), .int .i64 a1] 44)) (.cells #[.int .u32 (b0 : Int), .int .i64 b1] 44)).trans_no k
    have e0 : y.heap[w.heap.size]? = _ := (k1.block _ (heap_lt c0) (fun h => h)).trans c0
    have hs : (w.alloc (.cells #[.int .u32 (a0 : Int), .int .i64 a1] 44)).heap.size = w.heap.size + 1 := by simp
    rw [hs] at c1
    have e1 : y.heap[w.heap.size + 1]? = _ := (k.block _ (heap_lt c1) (fun h => h)).trans c1
    exact ⟨by simp [World.cell?, e0], by simp [World.cell?, e0], by simp [World.cell?, e1], by simp [World.cell?, e1]⟩)
  clear c0 c1
  go_enter Tryz.func79, Tryz.ntmps79
  go_wp2_with fail
  refine (C1.out _).mono ?_
  rintro e y ⟨b, rfl, k⟩
  obtain ⟨f0, f1, f2, f3⟩ := CELL.out y k
  have KY := Lib.hid (KA.out.trans_no k)
  clear k CELL
  cases b
  · go_wp2_with fail
    refine (C2.out _).mono ?_
    rintro e z ⟨b, rfl, k⟩
    go_wp2
    go_ret
    exact ⟨_, rfl, KY.out.trans_no k⟩
  · go_wp2
    go_ret
    exact ⟨_, rfl, KY.out⟩
theorem Network_any (a0 : Nat) (a1 : Int) (ha : a0 < 4294967296) (w : World) : Calls Tryz.prog 80 #[.int .u32 (a0 : Int), .int .i64 a1] w fun e w' => ∃ (b0 : Nat) (b1 : Int), e = .returned (.agg #[.int .u32 (b0 : Int), .int .i64 b1]) ∧ b0 < 4294967296 ∧ Kp No w w' := by
  have MK := Lib.hid (fun (y : World) => Mask_ok a1 y)
  have CL := Lib.hid (fun (y : World) => clamp_ok a1 y)
  have hb : bits BinOp.and IntKind.u32 (a0 : Int) (mkN (clI a1) : Int) = ((a0 &&& mkN (clI a1) : Nat) : Int) := (bits_nat .u32 32 (by decide) (fun n a b => by rw [IntKind.wrap_u32]; omega) a0 _ ha (mkN_lt (clI_le a1))).1
  have hl : a0 &&& mkN (clI a1) < 4294967296 := Nat.lt_of_le_of_lt Nat.and_le_left ha
  generalize mkN (clI a1) = m at *
  generalize a0 &&& m = am at *
  have HL := Lib.hid hl
  have KA := Lib.hid (Kp.alloc (w := w) (.cells #[.int .u32 0, .int .i64 0] 44))
  go_enter Tryz.func80, Tryz.ntmps80
  go_wp2_with fail
  refine (MK.out _).mono ?_
  rintro e y ⟨rfl, rfl⟩
  go_wp2_with fail
  refine (CL.out _).mono ?_
  rintro e y ⟨rfl, rfl⟩
  go_wp2
  refine bodyPost_ret (v := .agg #[.int .u32 (am : Int), .int .i64 (clI a1 : Int)]) (by simp [results, Tryz.results80, go_sem]) rfl ⟨_, _, rfl, HL.out, Kp.alloc _⟩

theorem eql_tr1 (a1 : Nat) (a2 : Nat) (a3 : Int) (a4 : Int) (a5 : Int) (a6 : ByteArray) (a7 : Nat) (a8 : Nat) : ∃ b : Bool, ∀ W, (binOp .eql 66 (.agg #[.int .i64 1, .int .u32 (a1 : Int), .int .u32 (a2 : Int), .int .i64 a3, .int .i64 a4, .int .i64 a5, .string a6, .int .u32 (a7 : Int), .int .u32 (a8 : Int)]) (.agg #[.int .i64 1, .int .u32 (a1 : Int), .int .u32 (a2 : Int), .int .i64 0, .int .i64 0, .int .i64 0, .string { data := #[] }, .int .u32 0, .int .u32 0])).run Tryz.prog W = .ok (.bool b) W := by
  by_cases h : a3 = 0 ∧ a4 = 0 ∧ a5 = 0 ∧ a6.toList = [] ∧ a7 = 0 ∧ a8 = 0
  · obtain ⟨rfl, rfl, rfl, hs, rfl, rfl⟩ := h
    exact ⟨true, fun W => by go_simp <;> simp_all⟩
  · refine ⟨false, fun W => ?_⟩
    go_simp
    intros
    intro hz
    apply h
    simp_all
theorem eql_tr2 (a1 : Nat) (a2 : Nat) (a3 : Int) (a4 : Int) (a5 : Int) (a6 : ByteArray) (a7 : Nat) (a8 : Nat) : ∃ b : Bool, ∀ W, (binOp .eql 66 (.agg #[.int .i64 2, .int .u32 (a1 : Int), .int .u32 (a2 : Int), .int .i64 a3, .int .i64 a4, .int .i64 a5, .string a6, .int .u32 (a7 : Int), .int .u32 (a8 : Int)]) (.agg #[.int .i64 2, .int .u32 0, .int .u32 0, .int .i64 0, .int .i64 0, .int .i64 0, .string a6, .int .u32 (a7 : Int), .int .u32 (a8 : Int)])).run Tryz.prog W = .ok (.bool b) W := by
  by_cases h : a1 = 0 ∧ a2 = 0 ∧ a3 = 0 ∧ a4 = 0 ∧ a5 = 0
  · obtain ⟨rfl, rfl, rfl, rfl, rfl⟩ := h
    exact ⟨true, fun W => by go_simp⟩
  · refine ⟨false, fun W => ?_⟩
    go_simp
    intros
    intro hz
    apply h
    simp_all
/-- What is right of a translation. -/
def trR (k pr ip op : Int) (lo hi : Nat) : Prop := k = 1 ∨ (k = 2 ∧ lo ≤ hi ∧ hi - lo < 8) ∨ (k = 3 ∧ (pr = 6 ∨ pr = 17) ∧ (0 ≤ ip ∧ ip ≤ 65535) ∧ (0 ≤ op ∧ op ≤ 65535))
def TrAny (w : World) (k pr ip op : Int) (lo hi : Nat) (e : Ending) (w' : World) : Prop := ∃ b, e = .returned (.bool b) ∧ Kp No w w' ∧ (b = true → trR k pr ip op lo hi)
set_option maxRecDepth 100000 in
set_option maxHeartbeats 2000000 in
theorem rightTranslation_any (a0 : Int) (a1 : Nat) (a2 : Nat) (a3 : Int) (a4 : Int) (a5 : Int) (a6 : ByteArray) (a7 : Nat) (a8 : Nat) (h7 : a7 < 4294967296) (h8 : a8 < 4294967296) (w : World) : Calls Tryz.prog 86 #[.agg #[.int .i64 a0, .int .u32 (a1 : Int), .int .u32 (a2 : Int), .int .i64 a3, .int .i64 a4, .int .i64 a5, .string a6, .int .u32 (a7 : Int), .int .u32 (a8 : Int)]] w (TrAny w a0 a3 a4 a5 a7 a8) := by
  by_cases k1 : a0 = 1
  · subst k1
    have D : trR 1 a3 a4 a5 a7 a8 := .inl rfl
    obtain ⟨b, EQ⟩ := eql_tr1 a1 a2 a3 a4 a5 a6 a7 a8
    cases b
    · go_enter Tryz.func86, Tryz.ntmps86
      go_wp2
      all_goals (go_ret; exact ⟨_, rfl, (Kp.alloc _).trans_no (Kp.alloc _), fun _ => D⟩)
    · go_enter Tryz.func86, Tryz.ntmps86
      go_wp2
      all_goals (go_ret; exact ⟨_, rfl, (Kp.alloc _).trans_no (Kp.alloc _), fun _ => D⟩)
  by_cases k2 : a0 = 2
  · subst k2
    obtain ⟨b, EQ⟩ := eql_tr2 a1 a2 a3 a4 a5 a6 a7 a8
    cases b
    · go_enter Tryz.func86, Tryz.ntmps86
      go_wp2
      all_goals (go_ret; exact ⟨_, rfl, (Kp.alloc _).trans_no (Kp.alloc _), fun h => by cases h⟩)
    · by_cases hlh : a7 ≤ a8
      · have hlhi : (a7 : Int) ≤ a8 := by omega
        have h7i : (a7 : Int) < 4294967296 := by omega
        have h8i : (a8 : Int) < 4294967296 := by omega
        obtain ⟨d, hd⟩ : ∃ d, a8 - a7 = d := ⟨_, rfl⟩
        have e1 : (a8 : Int) - a7 = (d : Int) := by omega
        have e2 : ((a8 : Int) - a7) % 4294967296 = (d : Int) := by omega
        by_cases h9 : d < 8
        · have h9i : (d : Int) < 8 := by omega
          have D : trR 2 a3 a4 a5 a7 a8 := .inr (.inl ⟨rfl, hlh, by omega⟩)
          clear hd e1 h7i h8i
          go_enter Tryz.func86, Tryz.ntmps86
          go_wp2
          all_goals (go_ret; exact ⟨_, rfl, (Kp.alloc _).trans_no (Kp.alloc _), fun _ => D⟩)
        · have HN : Hid (¬ (a8 : Int) - a7 < 8) := Lib.hid (by omega)
          clear hd e1 e2 h7i h8i h9
          go_enter Tryz.func86, Tryz.ntmps86
          go_wp2
          all_goals (go_ret; exact ⟨_, rfl, (Kp.alloc _).trans_no (Kp.alloc _), fun h => by
            exfalso
            revert h
            have hn := HN.out
            cases ((a7 : Int) != 0)
            · simp
            · simp; try omega⟩)
      · have hlhi : ¬ (a7 : Int) ≤ a8 := by omega
        go_enter Tryz.func86, Tryz.ntmps86
        go_wp2
        all_goals (go_ret; exact ⟨_, rfl, (Kp.alloc _).trans_no (Kp.alloc _), fun h => by cases h⟩)
  by_cases k3 : a0 = 3
  · subst k3
    by_cases hp : a3 = 6 ∨ a3 = 17
    · have WI := Lib.hid (fun (n : Int) (y : World) => within_ok n 0 65535 y)
      have D : Hid (wiB a4 0 65535 = true → wiB a5 0 65535 = true → trR 3 a3 a4 a5 a7 a8) := Lib.hid (fun h1 h2 => .inr (.inr ⟨rfl, hp, of_decide_eq_true h1, of_decide_eq_true h2⟩))
      rcases hp with rfl | rfl
      all_goals
        go_enter Tryz.func86, Tryz.ntmps86
        go_wp2_with fail
        all_goals first
          | (go_ret; exact ⟨_, rfl, Kp.alloc _, fun h => by cases h⟩)
          | (refine (WI.out _ _).mono ?_
             rintro e y ⟨rfl, rfl⟩
             generalize wiB a4 0 65535 = b4 at *
             cases b4
             · go_wp2
               go_ret
               exact ⟨_, rfl, Kp.alloc _, fun h => by cases h⟩
             · go_wp2_with fail
               refine (WI.out _ _).mono ?_
               rintro e y ⟨rfl, rfl⟩
               generalize wiB a5 0 65535 = b5 at *
               cases b5
               · go_wp2
                 go_ret
                 exact ⟨_, rfl, Kp.alloc _, fun h => by cases h⟩
               · have D2 := D.out (by trivial) (by trivial)
                 go_wp2
                 all_goals (go_ret; exact ⟨_, rfl, Kp.alloc _, fun _ => D2⟩))
    · have h6 : a3 ≠ 6 := fun h => hp (.inl h)
      have h17 : a3 ≠ 17 := fun h => hp (.inr h)
      clear hp
      go_enter Tryz.func86, Tryz.ntmps86
      go_wp2
      all_goals (go_ret; exact ⟨_, rfl, Kp.alloc _, fun h => by cases h⟩)
  · go_enter Tryz.func86, Tryz.ntmps86
    go_wp2
    all_goals (go_ret; exact ⟨_, rfl, Kp.alloc _, fun h => by cases h⟩)
theorem eql_pr (a b : Int) : ∃ r : Bool, ∀ W, (binOp .eql 46 (.agg #[.int .i64 a, .int .i64 b]) (.agg #[.int .i64 0, .int .i64 65535])).run Tryz.prog W = .ok (.bool r) W := by
  by_cases h : a = 0 ∧ b = 65535
  · obtain ⟨rfl, rfl⟩ := h
    exact ⟨true, fun W => by go_simp⟩
  · refine ⟨false, fun W => ?_⟩
    go_simp
    intro h1 h2
    exact h ⟨h1, h2⟩
/-- What is right of a rule. -/
def ruR (pr sl sh dl dh : Int) : Prop := (-1 ≤ pr ∧ pr ≤ 255) ∧ (0 ≤ sl ∧ sl ≤ sh ∧ sh ≤ 65535) ∧ 0 ≤ dl ∧ dl ≤ dh ∧ dh ≤ 65535
def RuAny (w : World) (pr sl sh dl dh : Int) (e : Ending) (w' : World) : Prop := ∃ b, e = .returned (.bool b) ∧ Kp No w w' ∧ (b = true → ruR pr sl sh dl dh)
set_option maxRecDepth 100000 in
set_option maxHeartbeats 2000000 in
theorem rightRule_any (a0 : Bool) (a1 : Int) (a2 : Nat) (a3 : Nat) (a4 : Nat) (a5 : Nat) (a6 : Int) (a7 : Int) (a8 : Int) (a9 : Int) (w : World) : Calls Tryz.prog 85 #[.agg #[.bool a0, .int .i64 a1, .int .u32 (a2 : Int), .int .u32 (a3 : Int), .int .u32 (a4 : Int), .int .u32 (a5 : Int), .int .i64 a6, .int .i64 a7, .int .i64 a8, .int .i64 a9]] w (RuAny w a1 a6 a7 a8 a9) := by
  have WI := Lib.hid (fun (y : World) => within_ok a1 (-1) 255 y)
  have R1 := Lib.hid (fun (y : World) => rightPorts_ok a6 a7 y)
  have R2 := Lib.hid (fun (y : World) => rightPorts_ok a8 a9 y)
  have D : Hid (wiB a1 (-1) 255 = true → rpB a6 a7 = true → rpB a8 a9 = true → ruR a1 a6 a7 a8 a9) := Lib.hid (fun h1 h2 h3 => ⟨of_decide_eq_true h1, of_decide_eq_true h2, of_decide_eq_true h3⟩)
  obtain ⟨q1, E1⟩ := eql_pr a6 a7
  obtain ⟨q2, E2⟩ := eql_pr a8 a9
  have KA := Lib.hid (Kp.alloc (w := w) (.cells #[.bool a0, .int .i64 a1, .int .u32 (a2 : Int), .int .u32 (a3 : Int), .int .u32 (a4 : Int), .int .u32 (a5 : Int), .int .i64 a6, .int .i64 a7, .int .i64 a8, .int .i64 a9] 128))
  have c0 := heap_alloc_new w (.cells #[.bool a0, .int .i64 a1, .int .u32 (a2 : Int), .int .u32 (a3 : Int), .int .u32 (a4 : Int), .int .u32 (a5 : Int), .int .i64 a6, .int .i64 a7, .int .i64 a8, .int .i64 a9] 128)
  have CELL : Hid (∀ y, Kp No (w.alloc (.cells #[.bool a0, .int .i64 a1, .int .u32 (a2 : Int), .int .u32 (a3 : Int), .int .u32 (a4 : Int), .int .u32 (a5 : Int), .int .i64 a6, .int .i64 a7, .int .i64 a8, .int .i64 a9] 128)) y → y.cell? ⟨w.heap.size, 1, none⟩ = some (.int .i64 a1) ∧ y.cell? ⟨w.heap.size, 4, none⟩ = some (.int .u32 (a4 : Int)) ∧ y.cell? ⟨w.heap.size, 5, none⟩ = some (.int .u32 (a5 : Int)) ∧ y.cell? ⟨w.heap.size, 6, none⟩ = some (.int .i64 a6) ∧ y.cell? ⟨w.heap.size, 7, none⟩ = some (.int .i64 a7) ∧ y.cell? ⟨w.heap.size, 8, none⟩ = some (.int .i64 a8) ∧ y.cell? ⟨w.heap.size, 9, none⟩ = some (.int .i64 a9)) := Lib.hid (fun y k => by
    have e0 : y.heap[w.heap.size]? = _ := (k.block _ (heap_lt c0) (fun h => h)).trans c0
    exact ⟨by simp [World.cell?, e0], by simp [World.cell?, e0], by simp [World.cell?, e0], by simp [World.cell?, e0], by simp [World.cell?, e0], by simp [World.cell?, e0], by simp [World.cell?, e0]⟩)
  clear c0
  go_enter Tryz.func85, Tryz.ntmps85
  go_wp2_with fail
  refine (WI.out _).mono ?_
  rintro e y ⟨rfl, rfl⟩
  generalize wiB a1 (-1) 255 = b1 at *
  cases b1
  · go_wp2
    go_ret
    exact ⟨_, rfl, Kp.alloc _, fun h => by cases h⟩
  · go_wp2_with fail
    all_goals first
      | (go_ret; exact ⟨_, rfl, Kp.alloc _, fun h => by cases h⟩)
      | (refine (R1.out _).mono ?_
         rintro e y ⟨rfl, k⟩
         obtain ⟨f1, f4, f5, f6, f7, f8, f9⟩ := CELL.out y k
         have K1 := Lib.hid (KA.out.trans_no k)
         have KY := Lib.hid k
         clear k
         generalize rpB a6 a7 = b6 at *
         cases b6
         · go_wp2
           go_ret
           exact ⟨_, rfl, K1.out, fun h => by cases h⟩
         · go_wp2_with fail
           refine (R2.out _).mono ?_
           rintro e z ⟨rfl, k⟩
           clear f1 f4 f5 f6 f7 f8 f9
           obtain ⟨f1, f4, f5, f6, f7, f8, f9⟩ := CELL.out z (KY.out.trans_no k)
           have K2 := Lib.hid (K1.out.trans_no k)
           have KZ := Lib.hid ((KY.out.trans_no k).trans_no (Kp.alloc (.cells #[.int .i64 0, .int .i64 65535] 46)))
           clear k
           generalize rpB a8 a9 = b8 at *
           cases b8
           · go_wp2
             go_ret
             exact ⟨_, rfl, K2.out, fun h => by cases h⟩
           · have D2 := D.out (by trivial) (by trivial) (by trivial)
             have n0 := heap_alloc_new z (.cells #[.int .i64 0, .int .i64 65535] 46)
             have K3 := Lib.hid (K2.out.trans_no (Kp.alloc (.cells #[.int .i64 0, .int .i64 65535] 46)))
             clear D
             go_upto_region 6 with fail
             clear f1 f4 f5 f6 f7 f8 f9
             generalize z.alloc (.cells #[.int .i64 0, .int .i64 65535] 46) = z2 at *
             obtain ⟨f1, f4, f5, f6, f7, f8, f9⟩ := CELL.out z2 KZ.out
             have g0 : z2.cell? ⟨z.heap.size, 0, none⟩ = some (.int .i64 0) := by simp [World.cell?, n0]
             have g1 : z2.cell? ⟨z.heap.size, 1, none⟩ = some (.int .i64 65535) := by simp [World.cell?, n0]
             clear n0
             cases q1 <;> cases q2
             all_goals
               go_wp2
               all_goals (go_ret; exact ⟨_, rfl, K3.out, fun _ => D2⟩))

end Go.Proofs.YtdgnbbmgcgfibaaGreatDoor

namespace Go.Proofs.YtdgnbbmgcgfibaaGreatDoor
open Go.RowKit

/-- The cells of a router: what each of them is. -/
structure RtC (w : World) (cs : Array Value) : Prop where
  sz : cs.size = 25
  name : ∃ s : ByteArray, cs[0]? = some (.string s)
  asn : ∃ n : Int, cs[1]? = some (.int .i64 n) ∧ -9223372036854775808 ≤ n ∧ n ≤ 9223372036854775807
  ifs : ∃ (a : Option Addr) (n c : Nat), cs[2]? = some (.slice a n c) ∧ Flat w ifK (.slice a n c) ∧ n ≤ c ∧ c ≤ 9223372036854775807
  lists : ∃ (a : Option Addr) (n c : Nat), cs[3]? = some (.slice a n c) ∧ Nest w plK (.slice a n c) ∧ n ≤ c ∧ c ≤ 9223372036854775807
  maps : ∃ (a : Option Addr) (n c : Nat), cs[4]? = some (.slice a n c) ∧ Nest w rmK (.slice a n c) ∧ n ≤ c ∧ c ≤ 9223372036854775807
  acls : ∃ (a : Option Addr) (n c : Nat), cs[5]? = some (.slice a n c) ∧ Nest w acK (.slice a n c) ∧ n ≤ c ∧ c ≤ 9223372036854775807
  nat : ∃ (a : Option Addr) (n c : Nat), cs[6]? = some (.slice a n c) ∧ Flat w trK (.slice a n c) ∧ n ≤ c ∧ c ≤ 9223372036854775807
  sts : ∃ (a : Option Addr) (n c : Nat), cs[7]? = some (.slice a n c) ∧ Flat w stK (.slice a n c) ∧ n ≤ c ∧ c ≤ 9223372036854775807
  lsOn : ∃ b : Bool, cs[8]? = some (.bool b)
  lsAd : ∃ n : Int, cs[9]? = some (.int .i64 n) ∧ -9223372036854775808 ≤ n ∧ n ≤ 9223372036854775807
  lsRa : ∃ (a : Option Addr) (n c : Nat), cs[10]? = some (.slice a n c) ∧ Flat w arK (.slice a n c) ∧ n ≤ c ∧ c ≤ 9223372036854775807
  lsRe : ∃ (a : Option Addr) (n c : Nat), cs[11]? = some (.slice a n c) ∧ Flat w rdK (.slice a n c) ∧ n ≤ c ∧ c ≤ 9223372036854775807
  dvOn : ∃ b : Bool, cs[12]? = some (.bool b)
  dvAd : ∃ n : Int, cs[13]? = some (.int .i64 n) ∧ -9223372036854775808 ≤ n ∧ n ≤ 9223372036854775807
  dvIn : ∃ s : ByteArray, cs[14]? = some (.string s)
  dvOut : ∃ s : ByteArray, cs[15]? = some (.string s)
  dvRe : ∃ (a : Option Addr) (n c : Nat), cs[16]? = some (.slice a n c) ∧ Flat w rdK (.slice a n c) ∧ n ≤ c ∧ c ≤ 9223372036854775807
  pvOn : ∃ b : Bool, cs[17]? = some (.bool b)
  pvEx : ∃ n : Int, cs[18]? = some (.int .i64 n) ∧ -9223372036854775808 ≤ n ∧ n ≤ 9223372036854775807
  pvIn : ∃ n : Int, cs[19]? = some (.int .i64 n) ∧ -9223372036854775808 ≤ n ∧ n ≤ 9223372036854775807
  pvNb : ∃ (a : Option Addr) (n c : Nat), cs[20]? = some (.slice a n c) ∧ Flat w nbK (.slice a n c) ∧ n ≤ c ∧ c ≤ 9223372036854775807
  pvNw : ∃ (a : Option Addr) (n c : Nat), cs[21]? = some (.slice a n c) ∧ Flat w pfK (.slice a n c) ∧ n ≤ c ∧ c ≤ 9223372036854775807
  pvAg : ∃ (a : Option Addr) (n c : Nat), cs[22]? = some (.slice a n c) ∧ Flat w agK (.slice a n c) ∧ n ≤ c ∧ c ≤ 9223372036854775807
  pvCo : ∃ (a : Option Addr) (n c : Nat), cs[23]? = some (.slice a n c) ∧ Flat w cnK (.slice a n c) ∧ n ≤ c ∧ c ≤ 9223372036854775807
  pvRe : ∃ (a : Option Addr) (n c : Nat), cs[24]? = some (.slice a n c) ∧ Flat w rdK (.slice a n c) ∧ n ≤ c ∧ c ≤ 9223372036854775807
theorem RtC.no {w w' : World} {cs : Array Value} (h : RtC w cs) (k : Kp No w w') : RtC w' cs where
  sz := h.sz
  name := h.name
  asn := h.asn
  ifs := by
    obtain ⟨a, n, c, h1, h2, h3⟩ := h.ifs
    exact ⟨a, n, c, h1, h2.no k, h3⟩
  lists := by
    obtain ⟨a, n, c, h1, h2, h3⟩ := h.lists
    exact ⟨a, n, c, h1, h2.no k, h3⟩
  maps := by
    obtain ⟨a, n, c, h1, h2, h3⟩ := h.maps
    exact ⟨a, n, c, h1, h2.no k, h3⟩
  acls := by
    obtain ⟨a, n, c, h1, h2, h3⟩ := h.acls
    exact ⟨a, n, c, h1, h2.no k, h3⟩
  nat := by
    obtain ⟨a, n, c, h1, h2, h3⟩ := h.nat
    exact ⟨a, n, c, h1, h2.no k, h3⟩
  sts := by
    obtain ⟨a, n, c, h1, h2, h3⟩ := h.sts
    exact ⟨a, n, c, h1, h2.no k, h3⟩
  lsOn := h.lsOn
  lsAd := h.lsAd
  lsRa := by
    obtain ⟨a, n, c, h1, h2, h3⟩ := h.lsRa
    exact ⟨a, n, c, h1, h2.no k, h3⟩
  lsRe := by
    obtain ⟨a, n, c, h1, h2, h3⟩ := h.lsRe
    exact ⟨a, n, c, h1, h2.no k, h3⟩
  dvOn := h.dvOn
  dvAd := h.dvAd
  dvIn := h.dvIn
  dvOut := h.dvOut
  dvRe := by
    obtain ⟨a, n, c, h1, h2, h3⟩ := h.dvRe
    exact ⟨a, n, c, h1, h2.no k, h3⟩
  pvOn := h.pvOn
  pvEx := h.pvEx
  pvIn := h.pvIn
  pvNb := by
    obtain ⟨a, n, c, h1, h2, h3⟩ := h.pvNb
    exact ⟨a, n, c, h1, h2.no k, h3⟩
  pvNw := by
    obtain ⟨a, n, c, h1, h2, h3⟩ := h.pvNw
    exact ⟨a, n, c, h1, h2.no k, h3⟩
  pvAg := by
    obtain ⟨a, n, c, h1, h2, h3⟩ := h.pvAg
    exact ⟨a, n, c, h1, h2.no k, h3⟩
  pvCo := by
    obtain ⟨a, n, c, h1, h2, h3⟩ := h.pvCo
    exact ⟨a, n, c, h1, h2.no k, h3⟩
  pvRe := by
    obtain ⟨a, n, c, h1, h2, h3⟩ := h.pvRe
    exact ⟨a, n, c, h1, h2.no k, h3⟩
theorem RtC.of {w : World} {r : Rtr} (h : r.ok w) : RtC w r.cells where
  sz := rfl
  name := ⟨_, rfl⟩
  asn := ⟨_, rfl, h.asn⟩
  ifs := by
    obtain ⟨a, n, c, e, h1, h2⟩ := Cels.form (show Cels _ _ _ r.ifs from h.ifs)
    have h3 := h.ifs
    rw [e] at h3
    exact ⟨a, n, c, by rw [← e]; rfl, h3, h1, h2⟩
  lists := by
    obtain ⟨a, n, c, e, h1, h2⟩ := Cels.form (show Cels _ _ _ r.lists from h.lists)
    have h3 := h.lists
    rw [e] at h3
    exact ⟨a, n, c, by rw [← e]; rfl, h3, h1, h2⟩
  maps := by
    obtain ⟨a, n, c, e, h1, h2⟩ := Cels.form (show Cels _ _ _ r.maps from h.maps)
    have h3 := h.maps
    rw [e] at h3
    exact ⟨a, n, c, by rw [← e]; rfl, h3, h1, h2⟩
  acls := by
    obtain ⟨a, n, c, e, h1, h2⟩ := Cels.form (show Cels _ _ _ r.acls from h.acls)
    have h3 := h.acls
    rw [e] at h3
    exact ⟨a, n, c, by rw [← e]; rfl, h3, h1, h2⟩
  nat := by
    obtain ⟨a, n, c, e, h1, h2⟩ := Cels.form (show Cels _ _ _ r.nat from h.nat)
    have h3 := h.nat
    rw [e] at h3
    exact ⟨a, n, c, by rw [← e]; rfl, h3, h1, h2⟩
  sts := by
    obtain ⟨a, n, c, e, h1, h2⟩ := Cels.form (show Cels _ _ _ r.sts from h.sts)
    have h3 := h.sts
    rw [e] at h3
    exact ⟨a, n, c, by rw [← e]; rfl, h3, h1, h2⟩
  lsOn := ⟨_, rfl⟩
  lsAd := ⟨_, rfl, h.lsAd⟩
  lsRa := by
    obtain ⟨a, n, c, e, h1, h2⟩ := Cels.form (show Cels _ _ _ r.lsRa from h.lsRa)
    have h3 := h.lsRa
    rw [e] at h3
    exact ⟨a, n, c, by rw [← e]; rfl, h3, h1, h2⟩
  lsRe := by
    obtain ⟨a, n, c, e, h1, h2⟩ := Cels.form (show Cels _ _ _ r.lsRe from h.lsRe)
    have h3 := h.lsRe
    rw [e] at h3
    exact ⟨a, n, c, by rw [← e]; rfl, h3, h1, h2⟩
  dvOn := ⟨_, rfl⟩
  dvAd := ⟨_, rfl, h.dvAd⟩
  dvIn := ⟨_, rfl⟩
  dvOut := ⟨_, rfl⟩
  dvRe := by
    obtain ⟨a, n, c, e, h1, h2⟩ := Cels.form (show Cels _ _ _ r.dvRe from h.dvRe)
    have h3 := h.dvRe
    rw [e] at h3
    exact ⟨a, n, c, by rw [← e]; rfl, h3, h1, h2⟩
  pvOn := ⟨_, rfl⟩
  pvEx := ⟨_, rfl, h.pvEx⟩
  pvIn := ⟨_, rfl, h.pvIn⟩
  pvNb := by
    obtain ⟨a, n, c, e, h1, h2⟩ := Cels.form (show Cels _ _ _ r.pvNb from h.pvNb)
    have h3 := h.pvNb
    rw [e] at h3
    exact ⟨a, n, c, by rw [← e]; rfl, h3, h1, h2⟩
  pvNw := by
    obtain ⟨a, n, c, e, h1, h2⟩ := Cels.form (show Cels _ _ _ r.pvNw from h.pvNw)
    have h3 := h.pvNw
    rw [e] at h3
    exact ⟨a, n, c, by rw [← e]; rfl, h3, h1, h2⟩
  pvAg := by
    obtain ⟨a, n, c, e, h1, h2⟩ := Cels.form (show Cels _ _ _ r.pvAg from h.pvAg)
    have h3 := h.pvAg
    rw [e] at h3
    exact ⟨a, n, c, by rw [← e]; rfl, h3, h1, h2⟩
  pvCo := by
    obtain ⟨a, n, c, e, h1, h2⟩ := Cels.form (show Cels _ _ _ r.pvCo from h.pvCo)
    have h3 := h.pvCo
    rw [e] at h3
    exact ⟨a, n, c, by rw [← e]; rfl, h3, h1, h2⟩
  pvRe := by
    obtain ⟨a, n, c, e, h1, h2⟩ := Cels.form (show Cels _ _ _ r.pvRe from h.pvRe)
    have h3 := h.pvRe
    rw [e] at h3
    exact ⟨a, n, c, by rw [← e]; rfl, h3, h1, h2⟩
/-- A whole router is loaded. -/
theorem wpList_load_rt {ops : Array Oper} {rest : List Oper} {o : Oper} {a : Act} {w : World} {Q : Exit → Act → World → Prop} (hgd : Region.wanted o (yielded ops a.tmps) = true) (x : Operand) (ho : o.op = .load 41 x)
    (g : Nat) (hx : a.eval x = .pointer (some ⟨g, 0, none⟩)) (cs : Array Value) (hs : cs.size = 25) (hg : w.heap[g]? = some (.cells cs 41 (0, 0)))
    (h : wpList Tryz.prog ops Q rest (a.put o.dst (.agg cs)) w) : wpList Tryz.prog ops Q (o :: rest) a w :=
  BigFrame.wpList_want hgd fun _ hK => wp_load_row _ x ho g hx _ cs (0, 0) (.struct (Tryz.prog.fieldsOf 41)) hg (by kernel_rfl) rfl (by rw [hs]; kernel_rfl) (hK _ _ h)
set_option maxHeartbeats 1000000 in
theorem Interface1_any (a0 : ByteArray) (a1 : Nat) (a2 : Int) (a3 : Int) (a4 : Bool) (a5 : Bool) (a6 : Int) (a7 : Int) (a8 : Bool) (a9 : ByteArray) (a10 : ByteArray) (a11 : Int) (s : ByteArray) (b : Nat) (w : World) (hc : w.cell? ⟨b, 0, none⟩ = some (.string s)) (hb : b < w.heap.size) : Calls Tryz.prog 114 #[.agg #[.string a0, .int .u32 (a1 : Int), .int .i64 a2, .int .i64 a3, .bool a4, .bool a5, .int .i64 a6, .int .i64 a7, .bool a8, .string a9, .string a10, .int .i64 a11], .pointer (some ⟨b, 0, none⟩)] w (AnyB w) := by
  have hne : b ≠ w.heap.size := by omega
  go_enter Tryz.func114, Tryz.ntmps114
  go_wp2
  all_goals (go_ret; exact ⟨_, rfl, Kp.alloc _⟩)
def InterfaceI (w : World) (n gk : Nat) (s8 : Value) (x : World) : Prop := ∃ k, k + gk = n ∧ s8 = .int .i64 (k : Int) ∧ Kp No w x
set_option maxHeartbeats 1000000 in
theorem Interface_ix {w : World} {ao : Option Addr} {len cap : Nat} (h : Flat w ifK (.slice ao len cap)) (hl : len ≤ 9223372036854775807) (s : ByteArray) (b : Nat) (hc : w.cell? ⟨b, 0, none⟩ = some (.string s)) (hb : b < w.heap.size) :
    Calls Tryz.prog 113 #[.slice ao len cap, .func (.func 114) #[] #[.pointer (some ⟨b, 0, none⟩)]] w fun e w' => ∃ i : Int, e = .returned (.int .i64 i) ∧ Kp No w w' ∧ -1 ≤ i ∧ i < len := by
  have H := Lib.hid h
  have HC := Lib.hid (And.intro hc hb)
  clear h hc hb
  go_enter Tryz.func113, Tryz.ntmps113
  go_wp2
  go_loopg [8] len (fun gk s8 x => InterfaceI w len gk s8 x)
  case atStart => exact ⟨0, by omega, rfl, Kp.refl _ _⟩
  case round =>
    obtain ⟨k, hk, rfl, kp⟩ := hrel
    by_cases hlt : k < len
    · have hlti : (k : Int) < len := by omega
      obtain ⟨g, o, a0, a1, a2, a3, a4, a5, a6, a7, a8, a9, a10, a11, rfl, hg, ⟨f0, f1, f2, f3, f4, f5, f6, f7, f8, f9, f10, f11⟩, _⟩ := if_at (H.out.no kp) hlt
      have CL := Lib.hid (Interface1_any a0 a1 a2 a3 a4 a5 a6 a7 a8 a9 a10 a11 s b wr (by rw [kp.cell HC.out.2 (fun h => h)]; exact HC.out.1) (Nat.lt_of_lt_of_le HC.out.2 kp.size))
      have KP := Lib.hid kp
      have HK := Lib.hid hk
      clear hk kp hg
      go_wp2_with fail
      refine CL.out.mono ?_
      rintro e y ⟨q, rfl, ky⟩
      have KY := Lib.hid (KP.out.trans_no ky)
      have RET : Hid (∃ i : Int, Ending.returned (.int .i64 (k : Int)) = .returned (.int .i64 i) ∧ Kp No w y ∧ -1 ≤ i ∧ i < len) := Lib.hid ⟨_, rfl, KY.out, by omega, by omega⟩
      clear f0 f1 f2 f3 f4 f5 f6 f7 f8 f9 f10 f11 ky CL
      cases q
      · go_wp2
        go_roundg (len - (k + 1))
        case measure => have := HK.out; omega
        case rel => exact ⟨k + 1, by omega, by go_num, KY.out⟩
      · go_wp2
        go_ret
        exact RET.out
    · obtain rfl : k = len := by omega
      have KP := Lib.hid kp
      clear hk kp
      go_wp2
      go_ret
      exact ⟨_, rfl, KP.out, by omega, by omega⟩
set_option maxRecDepth 100000 in
set_option maxHeartbeats 2000000 in
theorem Interface_any (cs : Array Value) (s : ByteArray) (w : World) (ok : RtC w cs) : Calls Tryz.prog 77 #[.agg cs, .string s] w fun e w' => ∃ (i : Int), e = .returned (.int .i64 i) ∧ Kp No w w' ∧ -1 ≤ i ∧ ∀ (a : Option Addr) (n c : Nat), cs[2]? = some (.slice a n c) → i < (n : Int) := by
  have h0 := heap_alloc_new w (.cells cs 41)
  have BX : Hid (∀ y, Kp No (w.alloc (.cells cs 41)) y → y.heap[w.heap.size]? = some (.cells cs 41 (0, 0))) := Lib.hid (fun y k => (k.block _ (heap_lt h0) (fun h => h)).trans h0)
  have KA := Lib.hid (Kp.alloc (w := w) (.cells cs 41))
  have OK := Lib.hid ok
  clear h0 ok
  obtain ⟨fA, fN, fC, fE, fF, fB1, fB2⟩ := OK.out.ifs
  have FE := Lib.hid fE
  go_enter Tryz.func77, Tryz.ntmps77
  go_upto_region 1 with fail
  have e1 := heap_alloc_new (w.alloc (.cells cs 41)) (.cells #[.string s] 9)
  have K1 := Lib.hid (Kp.alloc (w := w.alloc (.cells cs 41)) (.cells #[.string s] 9))
  have hsz : (w.alloc (.cells cs 41)).heap.size = w.heap.size + 1 := by simp
  rw [hsz] at e1
  generalize w.alloc (.cells cs 41) = X at *
  generalize X.alloc (.cells #[.string s] 9) = Y at *
  have f2 : Y.cell? ⟨w.heap.size, 2, none⟩ = some (.slice fA fN fC) := by rw [cell_of_row _ _ _ _ _ _ (BX.out Y K1.out)]; exact fE
  have IX := Lib.hid (Interface_ix (w := Y) (fF.no (KA.out.trans_no K1.out)) (by omega) s (w.heap.size + 1) (by simp [World.cell?, e1]) (heap_lt e1))
  have KY := Lib.hid (KA.out.trans_no K1.out)
  clear e1 hsz BX OK fE fF fB1 fB2
  go_wp2_with fail
  refine IX.out.mono ?_
  rintro e z ⟨i, rfl, kz, h1, h2⟩
  have RET : Hid (∃ (i' : Int), Ending.returned (.int .i64 i) = .returned (.int .i64 i') ∧ Kp No w z ∧ -1 ≤ i' ∧ ∀ (a : Option Addr) (n c : Nat), cs[2]? = some (.slice a n c) → i' < (n : Int)) := Lib.hid ⟨i, rfl, KY.out.trans_no kz, h1, fun a n c hc => by rw [FE.out] at hc; cases hc; exact h2⟩
  go_wp2
  go_ret
  exact RET.out
set_option maxHeartbeats 1000000 in
theorem PrefixList1_any (a0 : ByteArray) (a1 : Option Addr) (a2 a3 : Nat) (s : ByteArray) (b : Nat) (w : World) (hc : w.cell? ⟨b, 0, none⟩ = some (.string s)) (hb : b < w.heap.size) : Calls Tryz.prog 117 #[.agg #[.string a0, .slice a1 a2 a3], .pointer (some ⟨b, 0, none⟩)] w (AnyB w) := by
  have hne : b ≠ w.heap.size := by omega
  go_enter Tryz.func117, Tryz.ntmps117
  go_wp2
  all_goals (go_ret; exact ⟨_, rfl, Kp.alloc _⟩)
def PrefixListI (w : World) (n gk : Nat) (s8 : Value) (x : World) : Prop := ∃ k, k + gk = n ∧ s8 = .int .i64 (k : Int) ∧ Kp No w x
set_option maxHeartbeats 1000000 in
theorem PrefixList_ix {w : World} {ao : Option Addr} {len cap : Nat} (h : Nest w plK (.slice ao len cap)) (hl : len ≤ 9223372036854775807) (s : ByteArray) (b : Nat) (hc : w.cell? ⟨b, 0, none⟩ = some (.string s)) (hb : b < w.heap.size) :
    Calls Tryz.prog 116 #[.slice ao len cap, .func (.func 117) #[] #[.pointer (some ⟨b, 0, none⟩)]] w fun e w' => ∃ i : Int, e = .returned (.int .i64 i) ∧ Kp No w w' ∧ -1 ≤ i ∧ i < len := by
  have H := Lib.hid h
  have HC := Lib.hid (And.intro hc hb)
  clear h hc hb
  go_enter Tryz.func116, Tryz.ntmps116
  go_wp2
  go_loopg [8] len (fun gk s8 x => PrefixListI w len gk s8 x)
  case atStart => exact ⟨0, by omega, rfl, Kp.refl _ _⟩
  case round =>
    obtain ⟨k, hk, rfl, kp⟩ := hrel
    by_cases hlt : k < len
    · have hlti : (k : Int) < len := by omega
      obtain ⟨g, o, a0, a1, a2, a3, rfl, hg, ⟨f0, f1⟩, _⟩ := pl_at (H.out.no kp) hlt
      have CL := Lib.hid (PrefixList1_any a0 a1 a2 a3 s b wr (by rw [kp.cell HC.out.2 (fun h => h)]; exact HC.out.1) (Nat.lt_of_lt_of_le HC.out.2 kp.size))
      have KP := Lib.hid kp
      have HK := Lib.hid hk
      clear hk kp hg
      go_wp2_with fail
      refine CL.out.mono ?_
      rintro e y ⟨q, rfl, ky⟩
      have KY := Lib.hid (KP.out.trans_no ky)
      have RET : Hid (∃ i : Int, Ending.returned (.int .i64 (k : Int)) = .returned (.int .i64 i) ∧ Kp No w y ∧ -1 ≤ i ∧ i < len) := Lib.hid ⟨_, rfl, KY.out, by omega, by omega⟩
      clear f0 f1 ky CL
      cases q
      · go_wp2
        go_roundg (len - (k + 1))
        case measure => have := HK.out; omega
        case rel => exact ⟨k + 1, by omega, by go_num, KY.out⟩
      · go_wp2
        go_ret
        exact RET.out
    · obtain rfl : k = len := by omega
      have KP := Lib.hid kp
      clear hk kp
      go_wp2
      go_ret
      exact ⟨_, rfl, KP.out, by omega, by omega⟩
set_option maxRecDepth 100000 in
set_option maxHeartbeats 2000000 in
theorem PrefixList_any (cs : Array Value) (s : ByteArray) (w : World) (ok : RtC w cs) : Calls Tryz.prog 82 #[.agg cs, .string s] w fun e w' => ∃ (i : Int), e = .returned (.int .i64 i) ∧ Kp No w w' ∧ -1 ≤ i ∧ ∀ (a : Option Addr) (n c : Nat), cs[3]? = some (.slice a n c) → i < (n : Int) := by
  have h0 := heap_alloc_new w (.cells cs 41)
  have BX : Hid (∀ y, Kp No (w.alloc (.cells cs 41)) y → y.heap[w.heap.size]? = some (.cells cs 41 (0, 0))) := Lib.hid (fun y k => (k.block _ (heap_lt h0) (fun h => h)).trans h0)
  have KA := Lib.hid (Kp.alloc (w := w) (.cells cs 41))
  have OK := Lib.hid ok
  clear h0 ok
  obtain ⟨fA, fN, fC, fE, fF, fB1, fB2⟩ := OK.out.lists
  have FE := Lib.hid fE
  go_enter Tryz.func82, Tryz.ntmps82
  go_upto_region 1 with fail
  have e1 := heap_alloc_new (w.alloc (.cells cs 41)) (.cells #[.string s] 9)
  have K1 := Lib.hid (Kp.alloc (w := w.alloc (.cells cs 41)) (.cells #[.string s] 9))
  have hsz : (w.alloc (.cells cs 41)).heap.size = w.heap.size + 1 := by simp
  rw [hsz] at e1
  generalize w.alloc (.cells cs 41) = X at *
  generalize X.alloc (.cells #[.string s] 9) = Y at *
  have f2 : Y.cell? ⟨w.heap.size, 3, none⟩ = some (.slice fA fN fC) := by rw [cell_of_row _ _ _ _ _ _ (BX.out Y K1.out)]; exact fE
  have IX := Lib.hid (PrefixList_ix (w := Y) (fF.no (KA.out.trans_no K1.out)) (by omega) s (w.heap.size + 1) (by simp [World.cell?, e1]) (heap_lt e1))
  have KY := Lib.hid (KA.out.trans_no K1.out)
  clear e1 hsz BX OK fE fF fB1 fB2
  go_wp2_with fail
  refine IX.out.mono ?_
  rintro e z ⟨i, rfl, kz, h1, h2⟩
  have RET : Hid (∃ (i' : Int), Ending.returned (.int .i64 i) = .returned (.int .i64 i') ∧ Kp No w z ∧ -1 ≤ i' ∧ ∀ (a : Option Addr) (n c : Nat), cs[3]? = some (.slice a n c) → i' < (n : Int)) := Lib.hid ⟨i, rfl, KY.out.trans_no kz, h1, fun a n c hc => by rw [FE.out] at hc; cases hc; exact h2⟩
  go_wp2
  go_ret
  exact RET.out
set_option maxHeartbeats 1000000 in
theorem RouteMap1_any (a0 : ByteArray) (a1 : Option Addr) (a2 a3 : Nat) (s : ByteArray) (b : Nat) (w : World) (hc : w.cell? ⟨b, 0, none⟩ = some (.string s)) (hb : b < w.heap.size) : Calls Tryz.prog 119 #[.agg #[.string a0, .slice a1 a2 a3], .pointer (some ⟨b, 0, none⟩)] w (AnyB w) := by
  have hne : b ≠ w.heap.size := by omega
  go_enter Tryz.func119, Tryz.ntmps119
  go_wp2
  all_goals (go_ret; exact ⟨_, rfl, Kp.alloc _⟩)
def RouteMapI (w : World) (n gk : Nat) (s8 : Value) (x : World) : Prop := ∃ k, k + gk = n ∧ s8 = .int .i64 (k : Int) ∧ Kp No w x
set_option maxHeartbeats 1000000 in
theorem RouteMap_ix {w : World} {ao : Option Addr} {len cap : Nat} (h : Nest w rmK (.slice ao len cap)) (hl : len ≤ 9223372036854775807) (s : ByteArray) (b : Nat) (hc : w.cell? ⟨b, 0, none⟩ = some (.string s)) (hb : b < w.heap.size) :
    Calls Tryz.prog 118 #[.slice ao len cap, .func (.func 119) #[] #[.pointer (some ⟨b, 0, none⟩)]] w fun e w' => ∃ i : Int, e = .returned (.int .i64 i) ∧ Kp No w w' ∧ -1 ≤ i ∧ i < len := by
  have H := Lib.hid h
  have HC := Lib.hid (And.intro hc hb)
  clear h hc hb
  go_enter Tryz.func118, Tryz.ntmps118
  go_wp2
  go_loopg [8] len (fun gk s8 x => RouteMapI w len gk s8 x)
  case atStart => exact ⟨0, by omega, rfl, Kp.refl _ _⟩
  case round =>
    obtain ⟨k, hk, rfl, kp⟩ := hrel
    by_cases hlt : k < len
    · have hlti : (k : Int) < len := by omega
      obtain ⟨g, o, a0, a1, a2, a3, rfl, hg, ⟨f0, f1⟩, _⟩ := rm_at (H.out.no kp) hlt
      have CL := Lib.hid (RouteMap1_any a0 a1 a2 a3 s b wr (by rw [kp.cell HC.out.2 (fun h => h)]; exact HC.out.1) (Nat.lt_of_lt_of_le HC.out.2 kp.size))
      have KP := Lib.hid kp
      have HK := Lib.hid hk
      clear hk kp hg
      go_wp2_with fail
      refine CL.out.mono ?_
      rintro e y ⟨q, rfl, ky⟩
      have KY := Lib.hid (KP.out.trans_no ky)
      have RET : Hid (∃ i : Int, Ending.returned (.int .i64 (k : Int)) = .returned (.int .i64 i) ∧ Kp No w y ∧ -1 ≤ i ∧ i < len) := Lib.hid ⟨_, rfl, KY.out, by omega, by omega⟩
      clear f0 f1 ky CL
      cases q
      · go_wp2
        go_roundg (len - (k + 1))
        case measure => have := HK.out; omega
        case rel => exact ⟨k + 1, by omega, by go_num, KY.out⟩
      · go_wp2
        go_ret
        exact RET.out
    · obtain rfl : k = len := by omega
      have KP := Lib.hid kp
      clear hk kp
      go_wp2
      go_ret
      exact ⟨_, rfl, KP.out, by omega, by omega⟩
set_option maxRecDepth 100000 in
set_option maxHeartbeats 2000000 in
theorem RouteMap_any (cs : Array Value) (s : ByteArray) (w : World) (ok : RtC w cs) : Calls Tryz.prog 83 #[.agg cs, .string s] w fun e w' => ∃ (i : Int), e = .returned (.int .i64 i) ∧ Kp No w w' ∧ -1 ≤ i ∧ ∀ (a : Option Addr) (n c : Nat), cs[4]? = some (.slice a n c) → i < (n : Int) := by
  have h0 := heap_alloc_new w (.cells cs 41)
  have BX : Hid (∀ y, Kp No (w.alloc (.cells cs 41)) y → y.heap[w.heap.size]? = some (.cells cs 41 (0, 0))) := Lib.hid (fun y k => (k.block _ (heap_lt h0) (fun h => h)).trans h0)
  have KA := Lib.hid (Kp.alloc (w := w) (.cells cs 41))
  have OK := Lib.hid ok
  clear h0 ok
  obtain ⟨fA, fN, fC, fE, fF, fB1, fB2⟩ := OK.out.maps
  have FE := Lib.hid fE
  go_enter Tryz.func83, Tryz.ntmps83
  go_upto_region 1 with fail
  have e1 := heap_alloc_new (w.alloc (.cells cs 41)) (.cells #[.string s] 9)
  have K1 := Lib.hid (Kp.alloc (w := w.alloc (.cells cs 41)) (.cells #[.string s] 9))
  have hsz : (w.alloc (.cells cs 41)).heap.size = w.heap.size + 1 := by simp
  rw [hsz] at e1
  generalize w.alloc (.cells cs 41) = X at *
  generalize X.alloc (.cells #[.string s] 9) = Y at *
  have f2 : Y.cell? ⟨w.heap.size, 4, none⟩ = some (.slice fA fN fC) := by rw [cell_of_row _ _ _ _ _ _ (BX.out Y K1.out)]; exact fE
  have IX := Lib.hid (RouteMap_ix (w := Y) (fF.no (KA.out.trans_no K1.out)) (by omega) s (w.heap.size + 1) (by simp [World.cell?, e1]) (heap_lt e1))
  have KY := Lib.hid (KA.out.trans_no K1.out)
  clear e1 hsz BX OK fE fF fB1 fB2
  go_wp2_with fail
  refine IX.out.mono ?_
  rintro e z ⟨i, rfl, kz, h1, h2⟩
  have RET : Hid (∃ (i' : Int), Ending.returned (.int .i64 i) = .returned (.int .i64 i') ∧ Kp No w z ∧ -1 ≤ i' ∧ ∀ (a : Option Addr) (n c : Nat), cs[4]? = some (.slice a n c) → i' < (n : Int)) := Lib.hid ⟨i, rfl, KY.out.trans_no kz, h1, fun a n c hc => by rw [FE.out] at hc; cases hc; exact h2⟩
  go_wp2
  go_ret
  exact RET.out
set_option maxHeartbeats 1000000 in
theorem ACL1_any (a0 : ByteArray) (a1 : Option Addr) (a2 a3 : Nat) (s : ByteArray) (b : Nat) (w : World) (hc : w.cell? ⟨b, 0, none⟩ = some (.string s)) (hb : b < w.heap.size) : Calls Tryz.prog 100 #[.agg #[.string a0, .slice a1 a2 a3], .pointer (some ⟨b, 0, none⟩)] w (AnyB w) := by
  have hne : b ≠ w.heap.size := by omega
  go_enter Tryz.func100, Tryz.ntmps100
  go_wp2
  all_goals (go_ret; exact ⟨_, rfl, Kp.alloc _⟩)
def ACLI (w : World) (n gk : Nat) (s8 : Value) (x : World) : Prop := ∃ k, k + gk = n ∧ s8 = .int .i64 (k : Int) ∧ Kp No w x
set_option maxHeartbeats 1000000 in
theorem ACL_ix {w : World} {ao : Option Addr} {len cap : Nat} (h : Nest w acK (.slice ao len cap)) (hl : len ≤ 9223372036854775807) (s : ByteArray) (b : Nat) (hc : w.cell? ⟨b, 0, none⟩ = some (.string s)) (hb : b < w.heap.size) :
    Calls Tryz.prog 99 #[.slice ao len cap, .func (.func 100) #[] #[.pointer (some ⟨b, 0, none⟩)]] w fun e w' => ∃ i : Int, e = .returned (.int .i64 i) ∧ Kp No w w' ∧ -1 ≤ i ∧ i < len := by
  have H := Lib.hid h
  have HC := Lib.hid (And.intro hc hb)
  clear h hc hb
  go_enter Tryz.func99, Tryz.ntmps99
  go_wp2
  go_loopg [8] len (fun gk s8 x => ACLI w len gk s8 x)
  case atStart => exact ⟨0, by omega, rfl, Kp.refl _ _⟩
  case round =>
    obtain ⟨k, hk, rfl, kp⟩ := hrel
    by_cases hlt : k < len
    · have hlti : (k : Int) < len := by omega
      obtain ⟨g, o, a0, a1, a2, a3, rfl, hg, ⟨f0, f1⟩, _⟩ := ac_at (H.out.no kp) hlt
      have CL := Lib.hid (ACL1_any a0 a1 a2 a3 s b wr (by rw [kp.cell HC.out.2 (fun h => h)]; exact HC.out.1) (Nat.lt_of_lt_of_le HC.out.2 kp.size))
      have KP := Lib.hid kp
      have HK := Lib.hid hk
      clear hk kp hg
      go_wp2_with fail
      refine CL.out.mono ?_
      rintro e y ⟨q, rfl, ky⟩
      have KY := Lib.hid (KP.out.trans_no ky)
      have RET : Hid (∃ i : Int, Ending.returned (.int .i64 (k : Int)) = .returned (.int .i64 i) ∧ Kp No w y ∧ -1 ≤ i ∧ i < len) := Lib.hid ⟨_, rfl, KY.out, by omega, by omega⟩
      clear f0 f1 ky CL
      cases q
      · go_wp2
        go_roundg (len - (k + 1))
        case measure => have := HK.out; omega
        case rel => exact ⟨k + 1, by omega, by go_num, KY.out⟩
      · go_wp2
        go_ret
        exact RET.out
    · obtain rfl : k = len := by omega
      have KP := Lib.hid kp
      clear hk kp
      go_wp2
      go_ret
      exact ⟨_, rfl, KP.out, by omega, by omega⟩
set_option maxRecDepth 100000 in
set_option maxHeartbeats 2000000 in
theorem ACL_any (cs : Array Value) (s : ByteArray) (w : World) (ok : RtC w cs) : Calls Tryz.prog 65 #[.agg cs, .string s] w fun e w' => ∃ (i : Int), e = .returned (.int .i64 i) ∧ Kp No w w' ∧ -1 ≤ i ∧ ∀ (a : Option Addr) (n c : Nat), cs[5]? = some (.slice a n c) → i < (n : Int) := by
  have h0 := heap_alloc_new w (.cells cs 41)
  have BX : Hid (∀ y, Kp No (w.alloc (.cells cs 41)) y → y.heap[w.heap.size]? = some (.cells cs 41 (0, 0))) := Lib.hid (fun y k => (k.block _ (heap_lt h0) (fun h => h)).trans h0)
  have KA := Lib.hid (Kp.alloc (w := w) (.cells cs 41))
  have OK := Lib.hid ok
  clear h0 ok
  obtain ⟨fA, fN, fC, fE, fF, fB1, fB2⟩ := OK.out.acls
  have FE := Lib.hid fE
  go_enter Tryz.func65, Tryz.ntmps65
  go_upto_region 1 with fail
  have e1 := heap_alloc_new (w.alloc (.cells cs 41)) (.cells #[.string s] 9)
  have K1 := Lib.hid (Kp.alloc (w := w.alloc (.cells cs 41)) (.cells #[.string s] 9))
  have hsz : (w.alloc (.cells cs 41)).heap.size = w.heap.size + 1 := by simp
  rw [hsz] at e1
  generalize w.alloc (.cells cs 41) = X at *
  generalize X.alloc (.cells #[.string s] 9) = Y at *
  have f2 : Y.cell? ⟨w.heap.size, 5, none⟩ = some (.slice fA fN fC) := by rw [cell_of_row _ _ _ _ _ _ (BX.out Y K1.out)]; exact fE
  have IX := Lib.hid (ACL_ix (w := Y) (fF.no (KA.out.trans_no K1.out)) (by omega) s (w.heap.size + 1) (by simp [World.cell?, e1]) (heap_lt e1))
  have KY := Lib.hid (KA.out.trans_no K1.out)
  clear e1 hsz BX OK fE fF fB1 fB2
  go_wp2_with fail
  refine IX.out.mono ?_
  rintro e z ⟨i, rfl, kz, h1, h2⟩
  have RET : Hid (∃ (i' : Int), Ending.returned (.int .i64 i) = .returned (.int .i64 i') ∧ Kp No w z ∧ -1 ≤ i' ∧ ∀ (a : Option Addr) (n c : Nat), cs[5]? = some (.slice a n c) → i' < (n : Int)) := Lib.hid ⟨i, rfl, KY.out.trans_no kz, h1, fun a n c hc => by rw [FE.out] at hc; cases hc; exact h2⟩
  go_wp2
  go_ret
  exact RET.out
set_option maxHeartbeats 1000000 in
theorem Address1_any (a0 : ByteArray) (a1 : Nat) (a2 : Int) (a3 : Int) (a4 : Bool) (a5 : Bool) (a6 : Int) (a7 : Int) (a8 : Bool) (a9 : ByteArray) (a10 : ByteArray) (a11 : Int) (s : Nat) (b : Nat) (w : World) (hc : w.cell? ⟨b, 0, none⟩ = some (.int .u32 (s : Int))) (hb : b < w.heap.size) : Calls Tryz.prog 126 #[.agg #[.string a0, .int .u32 (a1 : Int), .int .i64 a2, .int .i64 a3, .bool a4, .bool a5, .int .i64 a6, .int .i64 a7, .bool a8, .string a9, .string a10, .int .i64 a11], .pointer (some ⟨b, 0, none⟩)] w (AnyB w) := by
  have hne : b ≠ w.heap.size := by omega
  go_enter Tryz.func126, Tryz.ntmps126
  go_wp2
  all_goals (go_ret; exact ⟨_, rfl, Kp.alloc _⟩)
def AddressI (w : World) (n gk : Nat) (s8 : Value) (x : World) : Prop := ∃ k, k + gk = n ∧ s8 = .int .i64 (k : Int) ∧ Kp No w x
set_option maxHeartbeats 1000000 in
theorem Address_ix {w : World} {ao : Option Addr} {len cap : Nat} (h : Flat w ifK (.slice ao len cap)) (hl : len ≤ 9223372036854775807) (s : Nat) (b : Nat) (hc : w.cell? ⟨b, 0, none⟩ = some (.int .u32 (s : Int))) (hb : b < w.heap.size) :
    Calls Tryz.prog 113 #[.slice ao len cap, .func (.func 126) #[] #[.pointer (some ⟨b, 0, none⟩)]] w fun e w' => ∃ i : Int, e = .returned (.int .i64 i) ∧ Kp No w w' ∧ -1 ≤ i ∧ i < len := by
  have H := Lib.hid h
  have HC := Lib.hid (And.intro hc hb)
  clear h hc hb
  go_enter Tryz.func113, Tryz.ntmps113
  go_wp2
  go_loopg [8] len (fun gk s8 x => AddressI w len gk s8 x)
  case atStart => exact ⟨0, by omega, rfl, Kp.refl _ _⟩
  case round =>
    obtain ⟨k, hk, rfl, kp⟩ := hrel
    by_cases hlt : k < len
    · have hlti : (k : Int) < len := by omega
      obtain ⟨g, o, a0, a1, a2, a3, a4, a5, a6, a7, a8, a9, a10, a11, rfl, hg, ⟨f0, f1, f2, f3, f4, f5, f6, f7, f8, f9, f10, f11⟩, _⟩ := if_at (H.out.no kp) hlt
      have CL := Lib.hid (Address1_any a0 a1 a2 a3 a4 a5 a6 a7 a8 a9 a10 a11 s b wr (by rw [kp.cell HC.out.2 (fun h => h)]; exact HC.out.1) (Nat.lt_of_lt_of_le HC.out.2 kp.size))
      have KP := Lib.hid kp
      have HK := Lib.hid hk
      clear hk kp hg
      go_wp2_with fail
      refine CL.out.mono ?_
      rintro e y ⟨q, rfl, ky⟩
      have KY := Lib.hid (KP.out.trans_no ky)
      have RET : Hid (∃ i : Int, Ending.returned (.int .i64 (k : Int)) = .returned (.int .i64 i) ∧ Kp No w y ∧ -1 ≤ i ∧ i < len) := Lib.hid ⟨_, rfl, KY.out, by omega, by omega⟩
      clear f0 f1 f2 f3 f4 f5 f6 f7 f8 f9 f10 f11 ky CL
      cases q
      · go_wp2
        go_roundg (len - (k + 1))
        case measure => have := HK.out; omega
        case rel => exact ⟨k + 1, by omega, by go_num, KY.out⟩
      · go_wp2
        go_ret
        exact RET.out
    · obtain rfl : k = len := by omega
      have KP := Lib.hid kp
      clear hk kp
      go_wp2
      go_ret
      exact ⟨_, rfl, KP.out, by omega, by omega⟩
set_option maxRecDepth 100000 in
set_option maxHeartbeats 2000000 in
theorem Address_any (cs : Array Value) (s : Nat) (w : World) (ok : RtC w cs) : Calls Tryz.prog 121 #[.agg cs, .int .u32 (s : Int)] w fun e w' => ∃ (i : Int), e = .returned (.int .i64 i) ∧ Kp No w w' ∧ -1 ≤ i ∧ ∀ (a : Option Addr) (n c : Nat), cs[2]? = some (.slice a n c) → i < (n : Int) := by
  have h0 := heap_alloc_new w (.cells cs 41)
  have BX : Hid (∀ y, Kp No (w.alloc (.cells cs 41)) y → y.heap[w.heap.size]? = some (.cells cs 41 (0, 0))) := Lib.hid (fun y k => (k.block _ (heap_lt h0) (fun h => h)).trans h0)
  have KA := Lib.hid (Kp.alloc (w := w) (.cells cs 41))
  have OK := Lib.hid ok
  clear h0 ok
  obtain ⟨fA, fN, fC, fE, fF, fB1, fB2⟩ := OK.out.ifs
  have FE := Lib.hid fE
  go_enter Tryz.func121, Tryz.ntmps121
  go_upto_region 1 with fail
  have e1 := heap_alloc_new (w.alloc (.cells cs 41)) (.cells #[.int .u32 (s : Int)] 42)
  have K1 := Lib.hid (Kp.alloc (w := w.alloc (.cells cs 41)) (.cells #[.int .u32 (s : Int)] 42))
  have hsz : (w.alloc (.cells cs 41)).heap.size = w.heap.size + 1 := by simp
  rw [hsz] at e1
  generalize w.alloc (.cells cs 41) = X at *
  generalize X.alloc (.cells #[.int .u32 (s : Int)] 42) = Y at *
  have f2 : Y.cell? ⟨w.heap.size, 2, none⟩ = some (.slice fA fN fC) := by rw [cell_of_row _ _ _ _ _ _ (BX.out Y K1.out)]; exact fE
  have IX := Lib.hid (Address_ix (w := Y) (fF.no (KA.out.trans_no K1.out)) (by omega) s (w.heap.size + 1) (by simp [World.cell?, e1]) (heap_lt e1))
  have KY := Lib.hid (KA.out.trans_no K1.out)
  clear e1 hsz BX OK fE fF fB1 fB2
  go_wp2_with fail
  refine IX.out.mono ?_
  rintro e z ⟨i, rfl, kz, h1, h2⟩
  have RET : Hid (∃ (i' : Int), Ending.returned (.int .i64 i) = .returned (.int .i64 i') ∧ Kp No w z ∧ -1 ≤ i' ∧ ∀ (a : Option Addr) (n c : Nat), cs[2]? = some (.slice a n c) → i' < (n : Int)) := Lib.hid ⟨i, rfl, KY.out.trans_no kz, h1, fun a n c hc => by rw [FE.out] at hc; cases hc; exact h2⟩
  go_wp2
  go_ret
  exact RET.out

end Go.Proofs.YtdgnbbmgcgfibaaGreatDoor

namespace Go.Proofs.YtdgnbbmgcgfibaaGreatDoor
open Go.RowKit

theorem str_cases (s : ByteArray) : (s.toList = [] ∧ s.toList.isEmpty = true) ∨ (s.toList ≠ [] ∧ s.toList.isEmpty = false) := by
  cases h : s.toList with
  | nil => exact .inl ⟨rfl, rfl⟩
  | cons a l => exact .inr ⟨by simp, rfl⟩
/-- A whole router is loaded. -/
theorem ldR {W : World} {b : Nat} {cs : Array Value} (hs : cs.size = 25) (hg : W.heap[b]? = some (.cells cs 41 (0, 0))) : (loadVar 41 ⟨b, 0, none⟩).run Tryz.prog W = .ok (.agg cs) W :=
  run_loadVar_row W b _ _ cs (0, 0) (.struct (Tryz.prog.fieldsOf 41)) hg (by kernel_rfl) rfl (by rw [hs]; kernel_rfl)
/-- The way through a list. -/
def LpI (w : World) (n gk : Nat) (s : Value) (x : World) : Prop := ∃ k, k + gk = n ∧ s = .int .i64 (k : Int) ∧ Kp No w x
theorem cel2 {y : World} {b : Nat} {t : TypeId} {v0 v1 : Value} (h : y.heap[b]? = some (.cells #[v0, v1] t (0, 0))) : y.cell? ⟨b, 0, none⟩ = some v0 ∧ y.cell? ⟨b, 1, none⟩ = some v1 :=
  ⟨by simp [World.cell?, h], by simp [World.cell?, h]⟩
theorem cel3 {y : World} {b : Nat} {t : TypeId} {v0 v1 v2 : Value} (h : y.heap[b]? = some (.cells #[v0, v1, v2] t (0, 0))) : y.cell? ⟨b, 0, none⟩ = some v0 ∧ y.cell? ⟨b, 1, none⟩ = some v1 ∧ y.cell? ⟨b, 2, none⟩ = some v2 :=
  ⟨by simp [World.cell?, h], by simp [World.cell?, h], by simp [World.cell?, h]⟩
theorem cel4 {y : World} {b : Nat} {t : TypeId} {v0 v1 v2 v3 : Value} (h : y.heap[b]? = some (.cells #[v0, v1, v2, v3] t (0, 0))) : y.cell? ⟨b, 0, none⟩ = some v0 ∧ y.cell? ⟨b, 1, none⟩ = some v1 ∧ y.cell? ⟨b, 2, none⟩ = some v2 ∧ y.cell? ⟨b, 3, none⟩ = some v3 :=
  ⟨by simp [World.cell?, h], by simp [World.cell?, h], by simp [World.cell?, h], by simp [World.cell?, h]⟩
theorem cel5 {y : World} {b : Nat} {t : TypeId} {v0 v1 v2 v3 v4 : Value} (h : y.heap[b]? = some (.cells #[v0, v1, v2, v3, v4] t (0, 0))) : y.cell? ⟨b, 0, none⟩ = some v0 ∧ y.cell? ⟨b, 1, none⟩ = some v1 ∧ y.cell? ⟨b, 2, none⟩ = some v2 ∧ y.cell? ⟨b, 3, none⟩ = some v3 ∧ y.cell? ⟨b, 4, none⟩ = some v4 :=
  ⟨by simp [World.cell?, h], by simp [World.cell?, h], by simp [World.cell?, h], by simp [World.cell?, h], by simp [World.cell?, h]⟩
theorem cel7 {y : World} {b : Nat} {t : TypeId} {v0 v1 v2 v3 v4 v5 v6 : Value} (h : y.heap[b]? = some (.cells #[v0, v1, v2, v3, v4, v5, v6] t (0, 0))) : y.cell? ⟨b, 0, none⟩ = some v0 ∧ y.cell? ⟨b, 1, none⟩ = some v1 ∧ y.cell? ⟨b, 2, none⟩ = some v2 ∧ y.cell? ⟨b, 3, none⟩ = some v3 ∧ y.cell? ⟨b, 4, none⟩ = some v4 ∧ y.cell? ⟨b, 5, none⟩ = some v5 ∧ y.cell? ⟨b, 6, none⟩ = some v6 :=
  ⟨by simp [World.cell?, h], by simp [World.cell?, h], by simp [World.cell?, h], by simp [World.cell?, h], by simp [World.cell?, h], by simp [World.cell?, h], by simp [World.cell?, h]⟩
theorem cel9 {y : World} {b : Nat} {t : TypeId} {v0 v1 v2 v3 v4 v5 v6 v7 v8 : Value} (h : y.heap[b]? = some (.cells #[v0, v1, v2, v3, v4, v5, v6, v7, v8] t (0, 0))) : y.cell? ⟨b, 0, none⟩ = some v0 ∧ y.cell? ⟨b, 1, none⟩ = some v1 ∧ y.cell? ⟨b, 2, none⟩ = some v2 ∧ y.cell? ⟨b, 3, none⟩ = some v3 ∧ y.cell? ⟨b, 4, none⟩ = some v4 ∧ y.cell? ⟨b, 5, none⟩ = some v5 ∧ y.cell? ⟨b, 6, none⟩ = some v6 ∧ y.cell? ⟨b, 7, none⟩ = some v7 ∧ y.cell? ⟨b, 8, none⟩ = some v8 :=
  ⟨by simp [World.cell?, h], by simp [World.cell?, h], by simp [World.cell?, h], by simp [World.cell?, h], by simp [World.cell?, h], by simp [World.cell?, h], by simp [World.cell?, h], by simp [World.cell?, h], by simp [World.cell?, h]⟩
theorem cel10 {y : World} {b : Nat} {t : TypeId} {v0 v1 v2 v3 v4 v5 v6 v7 v8 v9 : Value} (h : y.heap[b]? = some (.cells #[v0, v1, v2, v3, v4, v5, v6, v7, v8, v9] t (0, 0))) : y.cell? ⟨b, 0, none⟩ = some v0 ∧ y.cell? ⟨b, 1, none⟩ = some v1 ∧ y.cell? ⟨b, 2, none⟩ = some v2 ∧ y.cell? ⟨b, 3, none⟩ = some v3 ∧ y.cell? ⟨b, 4, none⟩ = some v4 ∧ y.cell? ⟨b, 5, none⟩ = some v5 ∧ y.cell? ⟨b, 6, none⟩ = some v6 ∧ y.cell? ⟨b, 7, none⟩ = some v7 ∧ y.cell? ⟨b, 8, none⟩ = some v8 ∧ y.cell? ⟨b, 9, none⟩ = some v9 :=
  ⟨by simp [World.cell?, h], by simp [World.cell?, h], by simp [World.cell?, h], by simp [World.cell?, h], by simp [World.cell?, h], by simp [World.cell?, h], by simp [World.cell?, h], by simp [World.cell?, h], by simp [World.cell?, h], by simp [World.cell?, h]⟩
theorem cel12 {y : World} {b : Nat} {t : TypeId} {v0 v1 v2 v3 v4 v5 v6 v7 v8 v9 v10 v11 : Value} (h : y.heap[b]? = some (.cells #[v0, v1, v2, v3, v4, v5, v6, v7, v8, v9, v10, v11] t (0, 0))) : y.cell? ⟨b, 0, none⟩ = some v0 ∧ y.cell? ⟨b, 1, none⟩ = some v1 ∧ y.cell? ⟨b, 2, none⟩ = some v2 ∧ y.cell? ⟨b, 3, none⟩ = some v3 ∧ y.cell? ⟨b, 4, none⟩ = some v4 ∧ y.cell? ⟨b, 5, none⟩ = some v5 ∧ y.cell? ⟨b, 6, none⟩ = some v6 ∧ y.cell? ⟨b, 7, none⟩ = some v7 ∧ y.cell? ⟨b, 8, none⟩ = some v8 ∧ y.cell? ⟨b, 9, none⟩ = some v9 ∧ y.cell? ⟨b, 10, none⟩ = some v10 ∧ y.cell? ⟨b, 11, none⟩ = some v11 :=
  ⟨by simp [World.cell?, h], by simp [World.cell?, h], by simp [World.cell?, h], by simp [World.cell?, h], by simp [World.cell?, h], by simp [World.cell?, h], by simp [World.cell?, h], by simp [World.cell?, h], by simp [World.cell?, h], by simp [World.cell?, h], by simp [World.cell?, h], by simp [World.cell?, h]⟩
set_option maxRecDepth 1000000 in
set_option maxHeartbeats 4000000 in
theorem checkFilters_any (cs : Array Value) (w : World) (ok : RtC w cs) : Calls Tryz.prog 49 #[.agg cs] w (AnyE w) := by
  have h0 := heap_alloc_new w (.cells cs 41)
  have BX : Hid (∀ y, Kp No (w.alloc (.cells cs 41)) y → y.heap[w.heap.size]? = some (.cells cs 41 (0, 0))) := Lib.hid (fun y k => (k.block _ (heap_lt h0) (fun h => h)).trans h0)
  have KA := Lib.hid (Kp.alloc (w := w) (.cells cs 41))
  have OK := Lib.hid ok
  clear h0 ok
  obtain ⟨ifsA, ifsN, ifsC, ifsE, ifsF, ifsB⟩ := OK.out.ifs
  have FE := Lib.hid ifsE
  have FF := Lib.hid ifsF
  have FB := Lib.hid ifsB
  have hNb : (ifsN : Int) ≤ 9223372036854775807 := by have := ifsB; omega
  have CX : Hid (∀ y, Kp No (w.alloc (.cells cs 41)) y → y.cell? ⟨w.heap.size, 2, none⟩ = some (.slice ifsA ifsN ifsC)) := Lib.hid (fun y q => by rw [cell_of_row _ _ _ _ _ _ (BX.out y q)]; exact FE.out)
  clear ifsE ifsF ifsB
  go_enter Tryz.func49, Tryz.ntmps49
  go_upto_region 1 with fail
  generalize w.alloc (.cells cs 41) = X at *
  have f2 := CX.out X (Kp.refl _ _)
  go_wp2
  go_loopg [8] ifsN (fun gk s x => LpI X ifsN gk s x)
  case atStart => exact ⟨0, by omega, rfl, Kp.refl _ _⟩
  case round =>
    clear f2
    obtain ⟨k, hk, rfl, kp⟩ := hrel
    have HK := Lib.hid hk
    have KP := Lib.hid kp
    by_cases hlt : k < ifsN
    · have hlti : (k : Int) < ifsN := by omega
      have HLT := Lib.hid hlt
      obtain ⟨g, o, a0, a1, a2, a3, a4, a5, a6, a7, a8, a9, a10, a11, e, hg, ⟨c0, c1, c2, c3, c4, c5, c6, c7, c8, c9, c10, c11⟩, h0, h1, h2, h3, h6, h7, h9, h10, h11⟩ := if_at (FF.out.no (KA.out.trans_no kp)) hlt
      subst e
      have n0 := heap_alloc_new wr (.cells #[.string a0, .int .u32 (a1 : Int), .int .i64 a2, .int .i64 a3, .bool a4, .bool a5, .int .i64 a6, .int .i64 a7, .bool a8, .string a9, .string a10, .int .i64 a11] 139)
      have KZ := Lib.hid (kp.trans_no (Kp.alloc (w := wr) (.cells #[.string a0, .int .u32 (a1 : Int), .int .i64 a2, .int .i64 a3, .bool a4, .bool a5, .int .i64 a6, .int .i64 a7, .bool a8, .string a9, .string a10, .int .i64 a11] 139)))
      clear hk kp hg
      go_upto_region 4 with fail
      clear c0 c1 c2 c3 c4 c5 c6 c7 c8 c9 c10 c11
      generalize wr.alloc (.cells #[.string a0, .int .u32 (a1 : Int), .int .i64 a2, .int .i64 a3, .bool a4, .bool a5, .int .i64 a6, .int .i64 a7, .bool a8, .string a9, .string a10, .int .i64 a11] 139) = Z at *
      have NB : Hid (∀ y, Kp No Z y → y.heap[wr.heap.size]? = some (.cells #[.string a0, .int .u32 (a1 : Int), .int .i64 a2, .int .i64 a3, .bool a4, .bool a5, .int .i64 a6, .int .i64 a7, .bool a8, .string a9, .string a10, .int .i64 a11] 139 (0, 0))) := Lib.hid (fun y q => (q.block _ (heap_lt n0) (fun h => h)).trans n0)
      have OZ := Lib.hid (OK.out.no (KA.out.trans_no KZ.out))
      obtain ⟨d0, d1, d2, d3, d4, d5, d6, d7, d8, d9, d10, d11⟩ := cel12 n0
      clear n0
      have C1 := Lib.hid (fun (y : World) (q : Kp No Z y) => ACL_any cs a9 y (OZ.out.no q))
      have C2 := Lib.hid (fun (y : World) (q : Kp No Z y) => ACL_any cs a10 y (OZ.out.no q))
      rcases str_cases a9 with ⟨b9, b9'⟩ | ⟨b9, b9'⟩
      · rcases str_cases a10 with ⟨b10, b10'⟩ | ⟨b10, b10'⟩
        · go_wp2
          (go_roundg (ifsN - (k + 1))
           case measure => have := HK.out; have := HLT.out; omega
           case rel => exact ⟨k + 1, by have := HK.out; have := HLT.out; omega, by go_num, KZ.out⟩)
        · go_wp2_with (first | (refine wpList_load_rt rfl _ rfl w.heap.size rfl cs OK.out.sz (BX.out _ KZ.out) ?_))
          refine (C2.out _ (Kp.refl _ _)).mono ?_
          rintro e z ⟨i2, rfl, kz, _, _⟩
          have K3 := Lib.hid (KZ.out.trans_no kz)
          clear kz
          by_cases hi2 : i2 < 0
          · go_wp2
            go_ret
            exact ⟨_, rfl, KA.out.trans_no K3.out⟩
          · go_wp2
            (go_roundg (ifsN - (k + 1))
             case measure => have := HK.out; have := HLT.out; omega
             case rel => exact ⟨k + 1, by have := HK.out; have := HLT.out; omega, by go_num, K3.out⟩)
      · go_wp2_with (first | (refine wpList_load_rt rfl _ rfl w.heap.size rfl cs OK.out.sz (BX.out _ KZ.out) ?_))
        refine (C1.out Z (Kp.refl _ _)).mono ?_
        rintro e y ⟨i, rfl, ky, _, _⟩
        have KY := Lib.hid ky
        have K2 := Lib.hid (KZ.out.trans_no ky)
        clear d0 d1 d2 d3 d4 d5 d6 d7 d8 d9 d10 d11 ky
        obtain ⟨d0, d1, d2, d3, d4, d5, d6, d7, d8, d9, d10, d11⟩ := cel12 (NB.out y KY.out)
        by_cases hi : i < 0
        · go_wp2
          go_ret
          exact ⟨_, rfl, KA.out.trans_no K2.out⟩
        · rcases str_cases a10 with ⟨b10, b10'⟩ | ⟨b10, b10'⟩
          · go_wp2
            (go_roundg (ifsN - (k + 1))
             case measure => have := HK.out; have := HLT.out; omega
             case rel => exact ⟨k + 1, by have := HK.out; have := HLT.out; omega, by go_num, K2.out⟩)
          · go_wp2_with (first | (refine wpList_load_rt rfl _ rfl w.heap.size rfl cs OK.out.sz (BX.out _ K2.out) ?_))
            refine (C2.out _ KY.out).mono ?_
            rintro e z ⟨i2, rfl, kz, _, _⟩
            have K3 := Lib.hid (K2.out.trans_no kz)
            clear kz
            by_cases hi2 : i2 < 0
            · go_wp2
              go_ret
              exact ⟨_, rfl, KA.out.trans_no K3.out⟩
            · go_wp2
              (go_roundg (ifsN - (k + 1))
               case measure => have := HK.out; have := HLT.out; omega
               case rel => exact ⟨k + 1, by have := HK.out; have := HLT.out; omega, by go_num, K3.out⟩)
    · obtain rfl : k = ifsN := by omega
      have hge : ¬ (k : Int) < k := by omega
      clear hk kp hlt
      go_wp2
      go_ret
      exact ⟨_, rfl, KA.out.trans_no KP.out⟩
/-- A translation of the list is right. -/
def NatOk (w : World) (ao : Option Addr) (i : Nat) : Prop := ∃ (g o : Nat) (a0 : Int) (a1 a2 : Nat) (a3 a4 a5 : Int) (a6 : ByteArray) (a7 a8 : Nat), ao = some ⟨g, o, none⟩ ∧ g < w.heap.size ∧ (w.cell? ⟨g, o + i * 9, none⟩ = some (.int .i64 a0) ∧ w.cell? ⟨g, o + i * 9 + 1, none⟩ = some (.int .u32 (a1 : Int)) ∧ w.cell? ⟨g, o + i * 9 + 2, none⟩ = some (.int .u32 (a2 : Int)) ∧ w.cell? ⟨g, o + i * 9 + 3, none⟩ = some (.int .i64 a3) ∧ w.cell? ⟨g, o + i * 9 + 4, none⟩ = some (.int .i64 a4) ∧ w.cell? ⟨g, o + i * 9 + 5, none⟩ = some (.int .i64 a5) ∧ w.cell? ⟨g, o + i * 9 + 6, none⟩ = some (.string a6) ∧ w.cell? ⟨g, o + i * 9 + 7, none⟩ = some (.int .u32 (a7 : Int)) ∧ w.cell? ⟨g, o + i * 9 + 8, none⟩ = some (.int .u32 (a8 : Int))) ∧
  (a1 < 4294967296 ∧ a2 < 4294967296 ∧ a7 < 4294967296 ∧ a8 < 4294967296) ∧ trR a0 a3 a4 a5 a7 a8
def LpT (w X : World) (ao : Option Addr) (n gk : Nat) (s : Value) (x : World) : Prop := ∃ k, k + gk = n ∧ s = .int .i64 (k : Int) ∧ Kp No X x ∧ ∀ j, j < k → NatOk w ao j
def NatPost (w : World) (cs : Array Value) (e : Ending) (w' : World) : Prop := ∃ n : Int, e = .returned (.int .i64 n) ∧ Kp No w w' ∧ (n = 0 → ∀ (a : Option Addr) (m c : Nat), cs[6]? = some (.slice a m c) → ∀ j, j < m → NatOk w a j)
set_option maxRecDepth 1000000 in
set_option maxHeartbeats 4000000 in
theorem checkNAT_any (cs : Array Value) (w : World) (ok : RtC w cs) : Calls Tryz.prog 48 #[.agg cs] w (NatPost w cs) := by
  have h0 := heap_alloc_new w (.cells cs 41)
  have BX : Hid (∀ y, Kp No (w.alloc (.cells cs 41)) y → y.heap[w.heap.size]? = some (.cells cs 41 (0, 0))) := Lib.hid (fun y k => (k.block _ (heap_lt h0) (fun h => h)).trans h0)
  have KA := Lib.hid (Kp.alloc (w := w) (.cells cs 41))
  have OK := Lib.hid ok
  clear h0 ok
  obtain ⟨natA, natN, natC, natE, natF, natB⟩ := OK.out.nat
  by_cases hmx : 8 < natN
  · have hmxi : (8 : Int) < natN := by omega
    have f2 : (w.alloc (.cells cs 41)).cell? ⟨w.heap.size, 6, none⟩ = some (.slice natA natN natC) := by rw [cell_of_row _ _ _ _ _ _ (BX.out _ (Kp.refl _ _))]; exact natE
    clear BX OK natE natF hmx
    go_enter Tryz.func48, Tryz.ntmps48
    go_upto_region 1 with fail
    generalize w.alloc (.cells cs 41) = X at *
    go_wp2
    go_ret
    exact ⟨_, rfl, KA.out, fun h => by cases h⟩
  have hmxi : ¬ (8 : Int) < natN := by omega
  clear hmx
  have FE := Lib.hid natE
  have FF := Lib.hid natF
  have FB := Lib.hid natB
  have hNb : (natN : Int) ≤ 9223372036854775807 := by have := natB; omega
  have CX : Hid (∀ y, Kp No (w.alloc (.cells cs 41)) y → y.cell? ⟨w.heap.size, 6, none⟩ = some (.slice natA natN natC)) := Lib.hid (fun y q => by rw [cell_of_row _ _ _ _ _ _ (BX.out y q)]; exact FE.out)
  clear natE natF natB
  go_enter Tryz.func48, Tryz.ntmps48
  go_upto_region 1 with fail
  generalize w.alloc (.cells cs 41) = X at *
  have f2 := CX.out X (Kp.refl _ _)
  go_wp2
  go_loopg [12] natN (fun gk s x => LpT w X natA natN gk s x)
  case atStart => exact ⟨0, by omega, rfl, Kp.refl _ _, fun j h => by omega⟩
  case round =>
    clear f2
    obtain ⟨k, hk, rfl, kp, hno⟩ := hrel
    have HNO := Lib.hid hno
    clear hno
    have HK := Lib.hid hk
    have KP := Lib.hid kp
    by_cases hlt : k < natN
    · have hlti : (k : Int) < natN := by omega
      have HLT := Lib.hid hlt
      obtain ⟨g, o, a0, a1, a2, a3, a4, a5, a6, a7, a8, e, hg, ⟨c0, c1, c2, c3, c4, c5, c6, c7, c8⟩, h0, h1, h2, h3, h4, h5, h6, h7, h8⟩ := tr_at (FF.out.no (KA.out.trans_no kp)) hlt
      have CW := Lib.hid (Cels.at FF.out hlt)
      have CC := Lib.hid (And.intro c0 (And.intro c1 (And.intro c2 (And.intro c3 (And.intro c4 (And.intro c5 (And.intro c6 (And.intro c7 c8))))))))
      have BB := Lib.hid (And.intro h1 (And.intro h2 (And.intro h7 h8)))
      subst e
      have n0 := heap_alloc_new wr (.cells #[.int .i64 a0, .int .u32 (a1 : Int), .int .u32 (a2 : Int), .int .i64 a3, .int .i64 a4, .int .i64 a5, .string a6, .int .u32 (a7 : Int), .int .u32 (a8 : Int)] 66)
      have KZ := Lib.hid (kp.trans_no (Kp.alloc (w := wr) (.cells #[.int .i64 a0, .int .u32 (a1 : Int), .int .u32 (a2 : Int), .int .i64 a3, .int .i64 a4, .int .i64 a5, .string a6, .int .u32 (a7 : Int), .int .u32 (a8 : Int)] 66)))
      have NEW : Hid (trR a0 a3 a4 a5 a7 a8 → NatOk w (some ⟨g, o, none⟩) k) := Lib.hid (fun t => by
        obtain ⟨g', o', e', hg', _⟩ := CW.out
        cases e'
        have kw := KA.out.trans_no kp
        have tr : ∀ z, w.cell? ⟨g, z, none⟩ = wr.cell? ⟨g, z, none⟩ := fun z => (kw.cell hg' (fun h => h)).symm
        exact ⟨g, o, a0, a1, a2, a3, a4, a5, a6, a7, a8, rfl, hg', by simp only [tr]; exact CC.out, BB.out, t⟩)
      clear CW CC
      clear hk kp hg
      go_upto_region 6 with fail
      clear c0 c1 c2 c3 c4 c5 c6 c7 c8
      generalize wr.alloc (.cells #[.int .i64 a0, .int .u32 (a1 : Int), .int .u32 (a2 : Int), .int .i64 a3, .int .i64 a4, .int .i64 a5, .string a6, .int .u32 (a7 : Int), .int .u32 (a8 : Int)] 66) = Z at *
      have NB : Hid (∀ y, Kp No Z y → y.heap[wr.heap.size]? = some (.cells #[.int .i64 a0, .int .u32 (a1 : Int), .int .u32 (a2 : Int), .int .i64 a3, .int .i64 a4, .int .i64 a5, .string a6, .int .u32 (a7 : Int), .int .u32 (a8 : Int)] 66 (0, 0))) := Lib.hid (fun y q => (q.block _ (heap_lt n0) (fun h => h)).trans n0)
      have OZ := Lib.hid (OK.out.no (KA.out.trans_no KZ.out))
      obtain ⟨d0, d1, d2, d3, d4, d5, d6, d7, d8⟩ := cel9 n0
      clear n0
      have RT := Lib.hid (fun (y : World) => rightTranslation_any a0 a1 a2 a3 a4 a5 a6 a7 a8 h7 h8 y)
      have C1 := Lib.hid (fun (y : World) (q : Kp No Z y) => ACL_any cs a6 y (OZ.out.no q))
      clear h0 h1 h2 h3 h4 h5 h6 h7 h8
      go_wp2_with fail
      refine (RT.out Z).mono ?_
      rintro e y ⟨q, rfl, ky, ht⟩
      have KY := Lib.hid ky
      have K2 := Lib.hid (KZ.out.trans_no ky)
      have HT := Lib.hid ht
      clear d0 d1 d2 d3 d4 d5 d6 d7 d8 ky ht
      obtain ⟨d0, d1, d2, d3, d4, d5, d6, d7, d8⟩ := cel9 (NB.out y KY.out)
      cases q
      · go_wp2
        go_ret
        exact ⟨_, rfl, KA.out.trans_no K2.out, fun h => by cases h⟩
      · have TR := Lib.hid (HT.out (by trivial))
        by_cases hk2 : a0 = 2
        · go_wp2_with (first | (refine wpList_load_rt rfl _ rfl w.heap.size rfl cs OK.out.sz (BX.out _ K2.out) ?_))
          refine (C1.out y KY.out).mono ?_
          rintro e z ⟨i, rfl, kz, _, _⟩
          have K3 := Lib.hid (K2.out.trans_no kz)
          clear kz
          by_cases hi : i < 0
          · go_wp2
            go_ret
            exact ⟨_, rfl, KA.out.trans_no K3.out, fun h => by cases h⟩
          · go_wp2
            (go_roundg (natN - (k + 1))
             case measure => have := HK.out; have := HLT.out; omega
             case rel => exact ⟨k + 1, by have := HK.out; have := HLT.out; omega, by go_num, K3.out, fun j hj => by
               by_cases e : j = k
               · rw [e]; exact NEW.out TR.out
               · exact HNO.out j (by omega)⟩)
        · go_wp2
          (go_roundg (natN - (k + 1))
           case measure => have := HK.out; have := HLT.out; omega
           case rel => exact ⟨k + 1, by have := HK.out; have := HLT.out; omega, by go_num, K2.out, fun j hj => by
             by_cases e : j = k
             · rw [e]; exact NEW.out TR.out
             · exact HNO.out j (by omega)⟩)
    · obtain rfl : k = natN := by omega
      have hge : ¬ (k : Int) < k := by omega
      clear hk kp hlt
      go_wp2
      go_ret
      exact ⟨_, rfl, KA.out.trans_no KP.out, fun _ a m c hc j hj => by
        rw [FE.out] at hc
        cases hc
        exact HNO.out j hj⟩

end Go.Proofs.YtdgnbbmgcgfibaaGreatDoor
