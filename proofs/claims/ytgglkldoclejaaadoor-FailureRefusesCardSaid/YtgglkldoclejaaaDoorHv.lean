/-
  Walks: small functions of the package netverifylaw30; the law HeaderVariables.
-/
import Derived.Test.YtgglkldoclejaaaDoorHaw
namespace Go.Proofs.YtgglkldoclejaaaDoor
open Go.RowKit

def wdI (x : Int) : Nat := if 0 ≤ x ∧ x < 5 then fw x.toNat else 0
theorem wdI_in {k : Nat} (h : k < 5) : wdI (k : Int) = fw k := by unfold wdI; rw [if_pos ⟨by omega, by omega⟩]; rfl
theorem wdI_out {x : Int} (h : ¬ (0 ≤ x ∧ x < 5)) : wdI x = 0 := by unfold wdI; rw [if_neg h]

set_option maxRecDepth 100000 in
theorem width_ok (k : Nat) (hk : k < 5) (w : World) : Calls Tryd.prog 27 #[.int .i64 (k : Int)] w fun e w' => e = .returned (.int .i64 (fw k : Int)) ∧ w = w' := by
  rcases five hk with rfl | rfl | rfl | rfl | rfl
  all_goals
    go_enter Tryd.func27, Tryd.ntmps27
    go_wp2_with fail
    go_ret
    exact ⟨rfl, rfl⟩

set_option maxRecDepth 100000 in
theorem widthOf_ok (x : Int) (w : World) : Calls Tryd.prog 17 #[.int .i64 x] w fun e w' => e = .returned (.int .i64 (wdI x : Int)) ∧ w = w' := by
  by_cases h : 0 ≤ x ∧ x < 5
  · obtain ⟨k, rfl⟩ : ∃ k : Nat, x = (k : Int) := ⟨x.toNat, by omega⟩
    have hk : k < 5 := by omega
    rw [wdI_in hk]
    have W := Lib.hid (width_ok k hk w)
    have h0 : ¬ (k : Int) < 0 := by omega
    have h4 : ¬ (4 : Int) < (k : Int) := by omega
    generalize fw k = f at *
    clear h
    go_enter Tryd.func17, Tryd.ntmps17
    go_wp2_with fail
    refine W.out.mono ?_
    rintro e w' ⟨rfl, rfl⟩
    go_wp2_with fail
    go_ret
    exact ⟨rfl, rfl⟩
  · rw [wdI_out h]
    by_cases h0 : x < 0
    · clear h
      go_enter Tryd.func17, Tryd.ntmps17
      go_wp2_with fail
      go_ret
      exact ⟨rfl, rfl⟩
    · have h4 : (4 : Int) < x := by omega
      clear h
      go_enter Tryd.func17, Tryd.ntmps17
      go_wp2_with fail
      go_ret
      exact ⟨rfl, rfl⟩

def FirR (w : World) (k gk : Nat) (s3 s4 : Value) (wr : World) : Prop := ∃ j, j + gk = k ∧ s3 = .int .i64 (fsum j : Int) ∧ s4 = .int .i64 (j : Int) ∧ w = wr
set_option maxRecDepth 100000 in
theorem first_ok (k : Nat) (hk : k < 5) (w : World) : Calls Tryd.prog 18 #[.int .i64 (k : Int)] w fun e w' => e = .returned (.int .i64 (ff k : Int)) ∧ w = w' := by
  have J0 : Hid (FirR w k k (.int .i64 0) (.int .i64 0) w) := Lib.hid ⟨0, by omega, rfl, rfl, rfl⟩
  have FK := Lib.hid (fsum_lt hk).1
  go_enter Tryd.func18, Tryd.ntmps18
  go_wp2_with fail
  go_loopg [3, 4] k (fun gk s3 s4 wr => FirR w k gk s3 s4 wr)
  case atStart => exact J0.out
  case round =>
    clear J0
    obtain ⟨j, hj, rfl, rfl, rfl⟩ := hrel
    by_cases hlt : j < k
    · have W := Lib.hid (width_ok j (by omega) w)
      obtain ⟨e1, e2⟩ := fsum_lt (k := j) (by omega)
      have hff := ff_fw (k := j) (by omega)
      have JN : Hid (FirR w k (k - (j + 1)) (.int .i64 ((fsum j : Int) + (fw j : Int))) (.int .i64 ((j + 1 : Nat) : Int)) w) := Lib.hid ⟨j + 1, by omega, by rw [e2, e1, Int.natCast_add], rfl, rfl⟩
      have hs : fsum j ≤ 104 := by omega
      have hw := fw_le j
      have HJ := Lib.hid hj
      have hlti : (j : Int) < k := by omega
      clear e1 e2 hff hj
      generalize fsum j = s at *
      generalize fw j = f at *
      go_wp2_with fail
      refine W.out.mono ?_
      rintro e w' ⟨rfl, rfl⟩
      go_wp2_with fail
      go_roundg (k - (j + 1))
      case measure => have := HJ.out; omega
      case rel => exact JN.out
    · obtain rfl : j = k := by omega
      have hlti : ¬ (j : Int) < j := by omega
      have FF : Hid ((fsum j : Int) = (ff j : Int)) := Lib.hid (by rw [FK.out])
      clear hj hlt
      go_wp2_with fail
      go_ret
      exact ⟨by rw [FF.out]; rfl, rfl⟩

set_option maxRecDepth 100000 in
theorem HVar_out (x b : Int) (nx : Bool) (h : b < 0 ∨ (wdI x : Int) ≤ b) {w : World} (g : Gl w) : Calls Tryd.prog 19 #[.int .i64 x, .int .i64 b, .bool nx] w fun e w' => e = .returned (.int .i64 (-1)) ∧ w = w' := by
  by_cases h0 : b < 0
  · clear h g
    go_enter Tryd.func19, Tryd.ntmps19
    go_wp2_with fail
    go_ret
    exact ⟨rfl, rfl⟩
  · have W : Hid (Calls Tryd.prog 20 #[.int .i64 x] w fun e w' => e = .returned (.int .i64 (wdI x : Int)) ∧ w = w') := Lib.hid (by
      by_cases hx : 0 ≤ x ∧ x < 5
      · obtain ⟨k, rfl⟩ : ∃ k : Nat, x = (k : Int) := ⟨x.toNat, by omega⟩
        rw [wdI_in (by omega)]
        exact Width_in k (by omega) g
      · rw [wdI_out hx]
        exact Width_out x hx w)
    have h1 : (wdI x : Int) ≤ b := by omega
    generalize wdI x = f at *
    clear h g
    go_enter Tryd.func19, Tryd.ntmps19
    go_wp2_with fail
    refine W.out.mono ?_
    rintro e w' ⟨rfl, rfl⟩
    go_wp2_with fail
    go_ret
    exact ⟨rfl, rfl⟩

theorem Width_any (x : Int) {w : World} (g : Gl w) : Calls Tryd.prog 20 #[.int .i64 x] w fun e w' => e = .returned (.int .i64 (wdI x : Int)) ∧ w = w' := by
  by_cases hx : 0 ≤ x ∧ x < 5
  · obtain ⟨k, rfl⟩ : ∃ k : Nat, x = (k : Int) := ⟨x.toNat, by omega⟩
    rw [wdI_in (by omega)]
    exact Width_in k (by omega) g
  · rw [wdI_out hx]
    exact Width_out x hx w

/-- What is known of a link. -/
def lkI (x : Int) : Int := if 0 ≤ x ∧ x < 12 then x else -1

set_option maxRecDepth 100000 in
set_option maxHeartbeats 2000000 in
theorem HeaderVariables_walk (x f b : Int) (nx : Bool) {w : World} (g : Gl w) :
    Calls Tryd.prog 3 #[.int .i64 x, .int .i64 f, .int .i64 b, .bool nx] w fun e w' => e = .returned (.bool true) ∧ Kp No w w' := by
  have GLW := Lib.hid g
  have AW := Lib.hid (hawake_ok g)
  have FA := Lib.hid (fun (y : World) => Failure_ok x y)
  have WO := Lib.hid (fun (y : World) => widthOf_ok f y)
  have WA := Lib.hid (fun (y : World) (k : Kp No w y) => Width_any f (g.no k))
  have VR : Hid (∀ (y : World), Kp No w y → Calls Tryd.prog 19 #[.int .i64 f, .int .i64 b, .bool nx] y fun e w' => e = .returned (.int .i64 (if 0 ≤ b ∧ b < (wdI f : Int) then 12 + 2 * ((ff f.toNat : Int) + b) + (if nx then 1 else 0) else -1)) ∧ y = w') := Lib.hid (fun y k => by
    by_cases h : 0 ≤ b ∧ b < (wdI f : Int)
    · rw [if_pos h]
      have hf : 0 ≤ f ∧ f < 5 := by
        by_cases hf : 0 ≤ f ∧ f < 5
        · exact hf
        · rw [wdI_out hf] at h; omega
      obtain ⟨k', rfl⟩ : ∃ k : Nat, f = (k : Int) := ⟨f.toNat, by omega⟩
      obtain ⟨b', rfl⟩ : ∃ k : Nat, b = (k : Int) := ⟨b.toNat, by omega⟩
      rw [wdI_in (by omega)] at h
      have := HVar_in k' b' nx (by omega) (by omega) (g.no k)
      rw [fvar_eq] at this
      have e : ((12 + 2 * (ff k' + b') + (if nx then 1 else 0) : Nat) : Int) = 12 + 2 * ((ff (k' : Int).toNat : Int) + (b' : Int)) + (if nx then 1 else 0) := by cases nx <;> simp
      rw [e] at this
      exact this
    · rw [if_neg h]
      exact HVar_out f b nx (by omega) (g.no k))
  have FI : Hid (0 ≤ b ∧ b < (wdI f : Int) → ∀ y, Calls Tryd.prog 18 #[.int .i64 f] y fun e w' => e = .returned (.int .i64 (ff f.toNat : Int)) ∧ y = w') := Lib.hid (fun h y => by
    have hf : 0 ≤ f ∧ f < 5 := by
      by_cases hf : 0 ≤ f ∧ f < 5
      · exact hf
      · rw [wdI_out hf] at h; omega
    obtain ⟨k', rfl⟩ : ∃ k : Nat, f = (k : Int) := ⟨f.toNat, by omega⟩
    exact first_ok k' (by omega) y)
  have hwd : wdI f ≤ 32 := by unfold wdI; split <;> simp [fw_le]
  have hff : 0 ≤ b ∧ b < (wdI f : Int) → ff f.toNat ≤ 104 := fun h => by
    have hf : 0 ≤ f ∧ f < 5 := by
      by_cases hf : 0 ≤ f ∧ f < 5
      · exact hf
      · rw [wdI_out hf] at h; omega
    have := ff_fw (k := f.toNat) (by omega)
    omega
  generalize wdI f = wd at *
  generalize ff f.toNat = fi at *
  clear g
  by_cases hx : 0 ≤ x ∧ x < 12
  · rw [if_pos hx] at FA
    obtain ⟨hx0, hx1⟩ := hx
    by_cases hb : 0 ≤ b ∧ b < (wd : Int)
    · rw [if_pos hb] at VR
      have FI' := Lib.hid (FI.out hb)
      have hfi := hff hb
      obtain ⟨hb0, hb1⟩ := hb
      clear FI hff
      cases nx
      all_goals
        go_enter Tryd.func3, Tryd.ntmps3
        go_wp2_with fail
        refine AW.out.mono ?_
        rintro e w1 ⟨rfl, k1⟩
        have K1 := Lib.hid k1
        clear k1
        go_wp2_with fail
        refine (FA.out _).mono ?_
        rintro e w' ⟨rfl, rfl⟩
        go_wp2_with fail
        refine (WO.out _).mono ?_
        rintro e w' ⟨rfl, rfl⟩
        go_wp2_with fail
        refine (FI'.out _).mono ?_
        rintro e w' ⟨rfl, rfl⟩
        go_wp2_with fail
        refine (VR.out _ K1.out).mono ?_
        rintro e w' ⟨rfl, rfl⟩
        go_wp2_with fail
        refine (WA.out _ K1.out).mono ?_
        rintro e w' ⟨rfl, rfl⟩
        go_wp2_with fail
        refine (WO.out _).mono ?_
        rintro e w' ⟨rfl, rfl⟩
        go_wp2_with fail
        go_ret
        exact ⟨by simp, K1.out⟩
    · rw [if_neg hb] at VR
      clear FI hff
      by_cases hb0 : b < 0
      · clear hb
        go_enter Tryd.func3, Tryd.ntmps3
        go_wp2_with fail
        refine AW.out.mono ?_
        rintro e w1 ⟨rfl, k1⟩
        have K1 := Lib.hid k1
        clear k1
        go_wp2_with fail
        refine (FA.out _).mono ?_
        rintro e w' ⟨rfl, rfl⟩
        go_wp2_with fail
        refine (WO.out _).mono ?_
        rintro e w' ⟨rfl, rfl⟩
        go_wp2_with fail
        refine (VR.out _ K1.out).mono ?_
        rintro e w' ⟨rfl, rfl⟩
        go_wp2_with fail
        refine (WA.out _ K1.out).mono ?_
        rintro e w' ⟨rfl, rfl⟩
        go_wp2_with fail
        refine (WO.out _).mono ?_
        rintro e w' ⟨rfl, rfl⟩
        go_wp2_with fail
        go_ret
        exact ⟨by simp, K1.out⟩
      · have hb1 : (0 : Int) ≤ b := by omega
        have hb2 : ¬ b < (wd : Int) := by omega
        clear hb
        go_enter Tryd.func3, Tryd.ntmps3
        go_wp2_with fail
        refine AW.out.mono ?_
        rintro e w1 ⟨rfl, k1⟩
        have K1 := Lib.hid k1
        clear k1
        go_wp2_with fail
        refine (FA.out _).mono ?_
        rintro e w' ⟨rfl, rfl⟩
        go_wp2_with fail
        refine (WO.out _).mono ?_
        rintro e w' ⟨rfl, rfl⟩
        go_wp2_with fail
        refine (VR.out _ K1.out).mono ?_
        rintro e w' ⟨rfl, rfl⟩
        go_wp2_with fail
        refine (WA.out _ K1.out).mono ?_
        rintro e w' ⟨rfl, rfl⟩
        go_wp2_with fail
        refine (WO.out _).mono ?_
        rintro e w' ⟨rfl, rfl⟩
        go_wp2_with fail
        go_ret
        exact ⟨by simp, K1.out⟩
  · rw [if_neg hx] at FA
    by_cases hx0 : x < 0
    · clear hx
      by_cases hb : 0 ≤ b ∧ b < (wd : Int)
      · rw [if_pos hb] at VR
        have FI' := Lib.hid (FI.out hb)
        have hfi := hff hb
        obtain ⟨hb0, hb1⟩ := hb
        clear FI hff
        cases nx
        all_goals
          go_enter Tryd.func3, Tryd.ntmps3
          go_wp2_with fail
          refine AW.out.mono ?_
          rintro e w1 ⟨rfl, k1⟩
          have K1 := Lib.hid k1
          clear k1
          go_wp2_with fail
          refine (FA.out _).mono ?_
          rintro e w' ⟨rfl, rfl⟩
          go_wp2_with fail
          refine (WO.out _).mono ?_
          rintro e w' ⟨rfl, rfl⟩
          go_wp2_with fail
          refine (FI'.out _).mono ?_
          rintro e w' ⟨rfl, rfl⟩
          go_wp2_with fail
          refine (VR.out _ K1.out).mono ?_
          rintro e w' ⟨rfl, rfl⟩
          go_wp2_with fail
          refine (WA.out _ K1.out).mono ?_
          rintro e w' ⟨rfl, rfl⟩
          go_wp2_with fail
          refine (WO.out _).mono ?_
          rintro e w' ⟨rfl, rfl⟩
          go_wp2_with fail
          go_ret
          exact ⟨by simp, K1.out⟩
      · rw [if_neg hb] at VR
        clear FI hff
        by_cases hb0 : b < 0
        · clear hb
          go_enter Tryd.func3, Tryd.ntmps3
          go_wp2_with fail
          refine AW.out.mono ?_
          rintro e w1 ⟨rfl, k1⟩
          have K1 := Lib.hid k1
          clear k1
          go_wp2_with fail
          refine (FA.out _).mono ?_
          rintro e w' ⟨rfl, rfl⟩
          go_wp2_with fail
          refine (WO.out _).mono ?_
          rintro e w' ⟨rfl, rfl⟩
          go_wp2_with fail
          refine (VR.out _ K1.out).mono ?_
          rintro e w' ⟨rfl, rfl⟩
          go_wp2_with fail
          refine (WA.out _ K1.out).mono ?_
          rintro e w' ⟨rfl, rfl⟩
          go_wp2_with fail
          refine (WO.out _).mono ?_
          rintro e w' ⟨rfl, rfl⟩
          go_wp2_with fail
          go_ret
          exact ⟨by simp, K1.out⟩
        · have hb1 : (0 : Int) ≤ b := by omega
          have hb2 : ¬ b < (wd : Int) := by omega
          clear hb
          go_enter Tryd.func3, Tryd.ntmps3
          go_wp2_with fail
          refine AW.out.mono ?_
          rintro e w1 ⟨rfl, k1⟩
          have K1 := Lib.hid k1
          clear k1
          go_wp2_with fail
          refine (FA.out _).mono ?_
          rintro e w' ⟨rfl, rfl⟩
          go_wp2_with fail
          refine (WO.out _).mono ?_
          rintro e w' ⟨rfl, rfl⟩
          go_wp2_with fail
          refine (VR.out _ K1.out).mono ?_
          rintro e w' ⟨rfl, rfl⟩
          go_wp2_with fail
          refine (WA.out _ K1.out).mono ?_
          rintro e w' ⟨rfl, rfl⟩
          go_wp2_with fail
          refine (WO.out _).mono ?_
          rintro e w' ⟨rfl, rfl⟩
          go_wp2_with fail
          go_ret
          exact ⟨by simp, K1.out⟩
    · have hx1 : (0 : Int) ≤ x := by omega
      have hx2 : ¬ x < 12 := by omega
      clear hx
      by_cases hb : 0 ≤ b ∧ b < (wd : Int)
      · rw [if_pos hb] at VR
        have FI' := Lib.hid (FI.out hb)
        have hfi := hff hb
        obtain ⟨hb0, hb1⟩ := hb
        clear FI hff
        cases nx
        all_goals
          go_enter Tryd.func3, Tryd.ntmps3
          go_wp2_with fail
          refine AW.out.mono ?_
          rintro e w1 ⟨rfl, k1⟩
          have K1 := Lib.hid k1
          clear k1
          go_wp2_with fail
          refine (FA.out _).mono ?_
          rintro e w' ⟨rfl, rfl⟩
          go_wp2_with fail
          refine (WO.out _).mono ?_
          rintro e w' ⟨rfl, rfl⟩
          go_wp2_with fail
          refine (FI'.out _).mono ?_
          rintro e w' ⟨rfl, rfl⟩
          go_wp2_with fail
          refine (VR.out _ K1.out).mono ?_
          rintro e w' ⟨rfl, rfl⟩
          go_wp2_with fail
          refine (WA.out _ K1.out).mono ?_
          rintro e w' ⟨rfl, rfl⟩
          go_wp2_with fail
          refine (WO.out _).mono ?_
          rintro e w' ⟨rfl, rfl⟩
          go_wp2_with fail
          go_ret
          exact ⟨by simp, K1.out⟩
      · rw [if_neg hb] at VR
        clear FI hff
        by_cases hb0 : b < 0
        · clear hb
          go_enter Tryd.func3, Tryd.ntmps3
          go_wp2_with fail
          refine AW.out.mono ?_
          rintro e w1 ⟨rfl, k1⟩
          have K1 := Lib.hid k1
          clear k1
          go_wp2_with fail
          refine (FA.out _).mono ?_
          rintro e w' ⟨rfl, rfl⟩
          go_wp2_with fail
          refine (WO.out _).mono ?_
          rintro e w' ⟨rfl, rfl⟩
          go_wp2_with fail
          refine (VR.out _ K1.out).mono ?_
          rintro e w' ⟨rfl, rfl⟩
          go_wp2_with fail
          refine (WA.out _ K1.out).mono ?_
          rintro e w' ⟨rfl, rfl⟩
          go_wp2_with fail
          refine (WO.out _).mono ?_
          rintro e w' ⟨rfl, rfl⟩
          go_wp2_with fail
          go_ret
          exact ⟨by simp, K1.out⟩
        · have hb1 : (0 : Int) ≤ b := by omega
          have hb2 : ¬ b < (wd : Int) := by omega
          clear hb
          go_enter Tryd.func3, Tryd.ntmps3
          go_wp2_with fail
          refine AW.out.mono ?_
          rintro e w1 ⟨rfl, k1⟩
          have K1 := Lib.hid k1
          clear k1
          go_wp2_with fail
          refine (FA.out _).mono ?_
          rintro e w' ⟨rfl, rfl⟩
          go_wp2_with fail
          refine (WO.out _).mono ?_
          rintro e w' ⟨rfl, rfl⟩
          go_wp2_with fail
          refine (VR.out _ K1.out).mono ?_
          rintro e w' ⟨rfl, rfl⟩
          go_wp2_with fail
          refine (WA.out _ K1.out).mono ?_
          rintro e w' ⟨rfl, rfl⟩
          go_wp2_with fail
          refine (WO.out _).mono ?_
          rintro e w' ⟨rfl, rfl⟩
          go_wp2_with fail
          go_ret
          exact ⟨by simp, K1.out⟩

end Go.Proofs.YtgglkldoclejaaaDoor
