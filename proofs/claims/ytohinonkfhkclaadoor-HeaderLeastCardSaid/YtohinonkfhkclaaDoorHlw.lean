/-
  Walks: 'less'; a list of packets in memory.
-/
import Derived.Test.YtohinonkfhkclaaDoorHlb
import Derived.Test.YtohinonkfhkclaaDoorRunJ
import Derived.Deep.RegionHeld3
import Derived.Deep.CutBlock
namespace Go.Proofs.YtohinonkfhkclaaDoor
open Go.RowKit

theorem pkN_lt_at {p q : Pkt} (hp : p.ok) (hq : q.ok) {i : Nat} (hi : i < 5) (he : ∀ j, j < i → p.f j = q.f j) (hne : p.f i ≠ q.f i ∨ i = 4) : pkN p < pkN q ↔ p.f i < q.f i := by
  have a0 := hp.lt (k := 0) (by omega)
  have a1 := hp.lt (k := 1) (by omega)
  have a2 := hp.lt (k := 2) (by omega)
  have a3 := hp.lt (k := 3) (by omega)
  have a4 := hp.lt (k := 4) (by omega)
  have b0 := hq.lt (k := 0) (by omega)
  have b1 := hq.lt (k := 1) (by omega)
  have b2 := hq.lt (k := 2) (by omega)
  have b3 := hq.lt (k := 3) (by omega)
  have b4 := hq.lt (k := 4) (by omega)
  rw [show 2 ^ fw 0 = 4294967296 from rfl] at a0 b0
  rw [show 2 ^ fw 1 = 4294967296 from rfl] at a1 b1
  rw [show 2 ^ fw 2 = 256 from rfl] at a2 b2
  rw [show 2 ^ fw 3 = 65536 from rfl] at a3 b3
  rw [show 2 ^ fw 4 = 65536 from rfl] at a4 b4
  unfold pkN
  rw [show (2 : Nat) ^ 72 = 4722366482869645213696 from rfl, show (2 : Nat) ^ 40 = 1099511627776 from rfl, show (2 : Nat) ^ 32 = 4294967296 from rfl, show (2 : Nat) ^ 16 = 65536 from rfl]
  rcases five hi with rfl | rfl | rfl | rfl | rfl
  · omega
  · have := he 0 (by omega); omega
  · have := he 0 (by omega); have := he 1 (by omega); omega
  · have := he 0 (by omega); have := he 1 (by omega); have := he 2 (by omega); omega
  · have := he 0 (by omega); have := he 1 (by omega); have := he 2 (by omega); have := he 3 (by omega); omega

def LsR (w : World) (p q : Pkt) (gk : Nat) (s5 : Value) (x : World) : Prop := ∃ i, i + gk = 4 ∧ s5 = .int .i64 (i : Int) ∧ (∀ j, j < i → p.f j = q.f j) ∧ Kp No w x

set_option maxRecDepth 100000 in
set_option maxHeartbeats 4000000 in
theorem less_ok {p q : Pkt} (hp : p.ok) (hq : q.ok) (w : World) : Calls Tryd.prog 37 #[pktV p, pktV q] w fun e w' => e = .returned (.bool (decide (pkN p < pkN q))) ∧ Kp No w w' := by
  have PA := Lib.hid ((PkAt.new w p 48).no (Kp.alloc (.cells #[.int .u32 (q.src : Int), .int .u32 (q.dst : Int), .int .i64 q.proto, .int .i64 q.sport, .int .i64 q.dport] 48)))
  have PB : Hid (PkAt ((w.alloc (.cells #[.int .u32 (p.src : Int), .int .u32 (p.dst : Int), .int .i64 p.proto, .int .i64 p.sport, .int .i64 p.dport] 48)).alloc (.cells #[.int .u32 (q.src : Int), .int .u32 (q.dst : Int), .int .i64 q.proto, .int .i64 q.sport, .int .i64 q.dport] 48)) (w.heap.size + 1) q) := Lib.hid (by
    have := PkAt.new (w.alloc (.cells #[.int .u32 (p.src : Int), .int .u32 (p.dst : Int), .int .i64 p.proto, .int .i64 p.sport, .int .i64 p.dport] 48)) q 48
    simpa using this)
  have KW := Lib.hid ((Kp.alloc (w := w) (.cells #[.int .u32 (p.src : Int), .int .u32 (p.dst : Int), .int .i64 p.proto, .int .i64 p.sport, .int .i64 p.dport] 48)).trans_no (Kp.alloc (.cells #[.int .u32 (q.src : Int), .int .u32 (q.dst : Int), .int .i64 q.proto, .int .i64 q.sport, .int .i64 q.dport] 48)))
  have FP := Lib.hid (fun (k : Nat) (hk : k < 5) (y : World) => Field_ok p k hk y)
  have FQ := Lib.hid (fun (k : Nat) (hk : k < 5) (y : World) => Field_ok q k hk y)
  have LT := Lib.hid (fun (i : Nat) (hi : i < 5) (he : ∀ j, j < i → p.f j = q.f j) (hne : p.f i ≠ q.f i ∨ i = 4) => pkN_lt_at hp hq hi he hne)
  have D4 : Hid ((p.f 4 : Int) = p.dport ∧ (q.f 4 : Int) = q.dport) := Lib.hid ⟨hp.f_val.2.2, hq.f_val.2.2⟩
  clear hp hq
  unfold pktV at *
  go_enter Tryd.func37, Tryd.ntmps37
  go_wp2_with fail
  change Code.wp _ _ _ _ ((w.alloc (.cells #[.int .u32 (p.src : Int), .int .u32 (p.dst : Int), .int .i64 p.proto, .int .i64 p.sport, .int .i64 p.dport] 48)).alloc (.cells #[.int .u32 (q.src : Int), .int .u32 (q.dst : Int), .int .i64 q.proto, .int .i64 q.sport, .int .i64 q.dport] 48))
  generalize (w.alloc (.cells #[.int .u32 (p.src : Int), .int .u32 (p.dst : Int), .int .i64 p.proto, .int .i64 p.sport, .int .i64 p.dport] 48)).alloc (.cells #[.int .u32 (q.src : Int), .int .u32 (q.dst : Int), .int .i64 q.proto, .int .i64 q.sport, .int .i64 q.dport] 48) = wB at *
  have CK : Hid (∀ y, Kp No wB y → y.cell? ⟨w.heap.size, 0, none⟩ = some (.int .u32 (p.src : Int)) ∧ y.cell? ⟨w.heap.size, 1, none⟩ = some (.int .u32 (p.dst : Int)) ∧ y.cell? ⟨w.heap.size, 2, none⟩ = some (.int .i64 p.proto) ∧ y.cell? ⟨w.heap.size, 3, none⟩ = some (.int .i64 p.sport) ∧ y.cell? ⟨w.heap.size, 4, none⟩ = some (.int .i64 p.dport) ∧ y.cell? ⟨w.heap.size + 1, 0, none⟩ = some (.int .u32 (q.src : Int)) ∧ y.cell? ⟨w.heap.size + 1, 1, none⟩ = some (.int .u32 (q.dst : Int)) ∧ y.cell? ⟨w.heap.size + 1, 2, none⟩ = some (.int .i64 q.proto) ∧ y.cell? ⟨w.heap.size + 1, 3, none⟩ = some (.int .i64 q.sport) ∧ y.cell? ⟨w.heap.size + 1, 4, none⟩ = some (.int .i64 q.dport)) := Lib.hid (fun y ky => by
    obtain ⟨c0, c1, c2, c3, c4⟩ := PA.out.no ky
    obtain ⟨d0, d1, d2, d3, d4⟩ := PB.out.no ky
    exact ⟨c0, c1, c2, c3, c4, d0, d1, d2, d3, d4⟩)
  clear PA PB
  have J0 : Hid (LsR wB p q 4 (.int .i64 0) wB) := Lib.hid ⟨0, by omega, rfl, fun j hj => by omega, Kp.refl _ _⟩
  go_loopg [5] 4 (fun gk s5 x => LsR wB p q gk s5 x)
  case atStart => exact J0.out
  case round =>
    clear J0
    obtain ⟨i, hi, rfl, he, kp⟩ := hrel
    by_cases hlt : i < 4
    · have HI := Lib.hid hi
      have hlti : (i : Int) < 4 := by omega
      have HE := Lib.hid he
      have KD := Lib.hid (kp.trans_no Kp.drew)
      have S0 := Lib.hid (CK.out _ KD.out)
      have FPI := Lib.hid (FP.out i (by omega))
      have FQI := Lib.hid (FQ.out i (by omega))
      by_cases hne : p.f i = q.f i
      · have hnei : (p.f i : Int) = q.f i := by omega
        have JN : Hid (∀ j, j < i + 1 → p.f j = q.f j) := Lib.hid (fun j hj => by
          by_cases e : j = i
          · rw [e]; exact hne
          · exact HE.out j (by omega))
        have BT : ((p.f i : Int) != q.f i) = false := by simp [hnei]
        clear hi he kp FP FQ LT hne
        generalize p.f i = fp at *
        generalize q.f i = fq at *
        go_upto_region 4 with fail
        go_region_held3 (fun y => y.cell? ⟨w.heap.size, 0, none⟩ = some (.int .u32 (p.src : Int)) ∧ y.cell? ⟨w.heap.size, 1, none⟩ = some (.int .u32 (p.dst : Int)) ∧ y.cell? ⟨w.heap.size, 2, none⟩ = some (.int .i64 p.proto) ∧ y.cell? ⟨w.heap.size, 3, none⟩ = some (.int .i64 p.sport) ∧ y.cell? ⟨w.heap.size, 4, none⟩ = some (.int .i64 p.dport) ∧ y.cell? ⟨w.heap.size + 1, 0, none⟩ = some (.int .u32 (q.src : Int)) ∧ y.cell? ⟨w.heap.size + 1, 1, none⟩ = some (.int .u32 (q.dst : Int)) ∧ y.cell? ⟨w.heap.size + 1, 2, none⟩ = some (.int .i64 q.proto) ∧ y.cell? ⟨w.heap.size + 1, 3, none⟩ = some (.int .i64 q.sport) ∧ y.cell? ⟨w.heap.size + 1, 4, none⟩ = some (.int .i64 q.dport)) (exact S0.out) (first | (go_at_call 35; first | ((with_reducible refine (FPI.out _).mono ?_); rintro e wa ⟨rfl, ka⟩; replace KD := Lib.hid (KD.out.trans_no ka); replace S0 := Lib.hid (CK.out _ KD.out); clear ka) | ((with_reducible refine (FQI.out _).mono ?_); rintro e wa ⟨rfl, ka⟩; replace KD := Lib.hid (KD.out.trans_no ka); replace S0 := Lib.hid (CK.out _ KD.out); clear ka)))
        all_goals
          clear S0 CK FPI FQI
          go_wp2_with fail
          go_roundg (4 - (i + 1))
          case measure => have := HI.out; omega
          case rel => exact ⟨i + 1, by have := HI.out; omega, rfl, JN.out, KD.out⟩
      · have hnei : ¬ (p.f i : Int) = q.f i := by omega
        have BT : ((p.f i : Int) != q.f i) = true := by simp; omega
        have RES : Hid ((decide (p.f i < q.f i)) = decide (pkN p < pkN q)) := Lib.hid (by
          have := LT.out i (by omega) he (.inl hne)
          rw [decide_eq_decide]; omega)
        clear hi he kp FP FQ LT hne HE
        generalize p.f i = fp at *
        generalize q.f i = fq at *
        go_upto_region 4 with fail
        go_region_held3 (fun y => y.cell? ⟨w.heap.size, 0, none⟩ = some (.int .u32 (p.src : Int)) ∧ y.cell? ⟨w.heap.size, 1, none⟩ = some (.int .u32 (p.dst : Int)) ∧ y.cell? ⟨w.heap.size, 2, none⟩ = some (.int .i64 p.proto) ∧ y.cell? ⟨w.heap.size, 3, none⟩ = some (.int .i64 p.sport) ∧ y.cell? ⟨w.heap.size, 4, none⟩ = some (.int .i64 p.dport) ∧ y.cell? ⟨w.heap.size + 1, 0, none⟩ = some (.int .u32 (q.src : Int)) ∧ y.cell? ⟨w.heap.size + 1, 1, none⟩ = some (.int .u32 (q.dst : Int)) ∧ y.cell? ⟨w.heap.size + 1, 2, none⟩ = some (.int .i64 q.proto) ∧ y.cell? ⟨w.heap.size + 1, 3, none⟩ = some (.int .i64 q.sport) ∧ y.cell? ⟨w.heap.size + 1, 4, none⟩ = some (.int .i64 q.dport)) (exact S0.out) (first | (go_at_call 35; first | ((with_reducible refine (FPI.out _).mono ?_); rintro e wa ⟨rfl, ka⟩; replace KD := Lib.hid (KD.out.trans_no ka); replace S0 := Lib.hid (CK.out _ KD.out); clear ka) | ((with_reducible refine (FQI.out _).mono ?_); rintro e wa ⟨rfl, ka⟩; replace KD := Lib.hid (KD.out.trans_no ka); replace S0 := Lib.hid (CK.out _ KD.out); clear ka)))
        all_goals
          have KD2 := Lib.hid (KD.out.trans_no Kp.drew)
          have S1 := Lib.hid (CK.out _ KD2.out)
          go_upto_region 5 with fail
          go_region_held3 (fun y => y.cell? ⟨w.heap.size, 0, none⟩ = some (.int .u32 (p.src : Int)) ∧ y.cell? ⟨w.heap.size, 1, none⟩ = some (.int .u32 (p.dst : Int)) ∧ y.cell? ⟨w.heap.size, 2, none⟩ = some (.int .i64 p.proto) ∧ y.cell? ⟨w.heap.size, 3, none⟩ = some (.int .i64 p.sport) ∧ y.cell? ⟨w.heap.size, 4, none⟩ = some (.int .i64 p.dport) ∧ y.cell? ⟨w.heap.size + 1, 0, none⟩ = some (.int .u32 (q.src : Int)) ∧ y.cell? ⟨w.heap.size + 1, 1, none⟩ = some (.int .u32 (q.dst : Int)) ∧ y.cell? ⟨w.heap.size + 1, 2, none⟩ = some (.int .i64 q.proto) ∧ y.cell? ⟨w.heap.size + 1, 3, none⟩ = some (.int .i64 q.sport) ∧ y.cell? ⟨w.heap.size + 1, 4, none⟩ = some (.int .i64 q.dport)) (exact S1.out) (first | (go_at_call 35; first | ((with_reducible refine (FPI.out _).mono ?_); rintro e wa ⟨rfl, ka⟩; replace KD2 := Lib.hid (KD2.out.trans_no ka); replace S1 := Lib.hid (CK.out _ KD2.out); clear ka) | ((with_reducible refine (FQI.out _).mono ?_); rintro e wa ⟨rfl, ka⟩; replace KD2 := Lib.hid (KD2.out.trans_no ka); replace S1 := Lib.hid (CK.out _ KD2.out); clear ka)))
          all_goals
            clear S0 S1 CK FPI FQI
            go_wp2_with fail
            go_ret
            exact ⟨by show Ending.returned (.bool (decide (fp < fq))) = _; rw [RES.out], KW.out.trans_no KD2.out⟩
    · obtain rfl : i = 4 := by omega
      have RES : Hid ((decide (p.dport < q.dport)) = decide (pkN p < pkN q)) := Lib.hid (by
        have := LT.out 4 (by omega) he (.inr rfl)
        have := D4.out
        rw [decide_eq_decide]; omega)
      obtain ⟨c0, c1, c2, c3, c4, d0, d1, d2, d3, d4⟩ := CK.out _ kp
      have KX := Lib.hid (KW.out.trans_no kp)
      clear hi he kp hlt FP FQ LT D4 CK
      go_wp2_with fail
      go_ret
      exact ⟨by show Ending.returned (.bool (decide (p.dport < q.dport))) = _; rw [RES.out], KX.out⟩

/-! ### a list of packets -/
def PksAt (w : World) (v : Value) (l : List Pkt) : Prop :=
  ∃ ao cap, v = .slice ao l.length cap ∧ l.length ≤ maxLen ∧ (∀ p, p ∈ l → p.in32) ∧ (l.length = 0 ∨ ∃ g o, ao = some ⟨g, o, none⟩ ∧ g < w.heap.size ∧ ∀ i p, l[i]? = some p → w.cell? ⟨g, o + i * 5, none⟩ = some (.int .u32 (p.src : Int)) ∧ w.cell? ⟨g, o + i * 5 + 1, none⟩ = some (.int .u32 (p.dst : Int)) ∧ w.cell? ⟨g, o + i * 5 + 2, none⟩ = some (.int .i64 p.proto) ∧ w.cell? ⟨g, o + i * 5 + 3, none⟩ = some (.int .i64 p.sport) ∧ w.cell? ⟨g, o + i * 5 + 4, none⟩ = some (.int .i64 p.dport))
set_option maxRecDepth 100000 in
theorem open_pktL {H : Type} {enc : TypeId × Value → H} {w : World} {sp : Nat → Bool} {held : Bool} {r : Reach} {b0 : Nat} {v : Value} {d : DataW H} {ps : List MemPlace}
    (hv : Value.okWide Tryd.prog w r b0 72 v) (h : DataW.Trod enc Tryd.prog w 0 sp held 72 v d ps) : ∃ l, PksAt w v l ∧ True := by
  obtain ⟨len, c, ao, cap, rfl, hl, h⟩ := open_nums (kd := fun i => if i < 2 then .u32 else .i64) (k := 5) Tryd.underlying72 (fs := Tryd.prog.fieldsOf 48) (by kernel_rfl) (by kernel_rfl) (by kernel_rfl) (by kernel_rfl) (by kernel_rfl) (by omega) hv h
  refine ⟨(List.range len).map fun i => ⟨(c i 0).toNat, (c i 1).toNat, c i 2, c i 3, c i 4⟩, ⟨ao, cap, by simp, by simpa using hl, fun p hp => ?_, ?_⟩, trivial⟩
  · obtain ⟨i, hi, rfl⟩ := List.mem_map.1 hp
    have hi := List.mem_range.1 hi
    rcases h with h | ⟨g, o, rfl, hg, h⟩
    · omega
    · have h0 := (h i hi 0 (by omega)).2
      have h1 := (h i hi 1 (by omega)).2
      have b0 := bounds_u32 h0
      have b1 := bounds_u32 h1
      exact ⟨by show (c i 0).toNat < _; omega, by show (c i 1).toNat < _; omega⟩
  · rcases h with h | ⟨g, o, rfl, hg, h⟩
    · exact .inl (by simp [h])
    · refine .inr ⟨g, o, rfl, hg, fun i p hp => ?_⟩
      obtain ⟨hi, hp⟩ := List.getElem?_eq_some_iff.1 hp
      have hi : i < len := by simpa using hi
      rw [List.getElem_map, List.getElem_range] at hp
      subst hp
      obtain ⟨h0, w0⟩ := h i hi 0 (by omega)
      obtain ⟨h1, w1⟩ := h i hi 1 (by omega)
      have b0 := bounds_u32 w0
      have b1 := bounds_u32 w1
      refine ⟨?_, ?_, (h i hi 2 (by omega)).1, (h i hi 3 (by omega)).1, (h i hi 4 (by omega)).1⟩
      · rw [show o + i * 5 = o + (i * 5 + 0) by omega, h0]
        show some (Value.int .u32 (c i 0)) = some (.int .u32 (((c i 0).toNat : Nat) : Int))
        rw [Int.toNat_of_nonneg b0.1]
      · rw [Nat.add_assoc, h1]
        show some (Value.int .u32 (c i 1)) = some (.int .u32 (((c i 1).toNat : Nat) : Int))
        rw [Int.toNat_of_nonneg b1.1]

end Go.Proofs.YtohinonkfhkclaaDoor
