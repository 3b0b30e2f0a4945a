/-
  The reference's assignment, Count, Least and Covers.
-/
import Derived.Test.YtngbodmooddjbaaQg
import Derived.BigQuiet
namespace Go.Proofs.Ytngbodmooddjbaa
open Go.RowKit

/-- The index while it is made. -/
def asI (vs : List Nat) (k : Nat) : Nat → Nat → Bool
  | 0 => fun _ => false
  | J + 1 => if k.testBit (vs.length - 1 - J) then Mgr.upd (asI vs k J) (vs.getD J 0) true else asI vs k J
theorem asI_iff (vs : List Nat) (k u : Nat) : ∀ J, asI vs k J u = true ↔ ∃ j, j < J ∧ vs.getD j 0 = u ∧ k.testBit (vs.length - 1 - j) = true
  | 0 => ⟨fun h => by simp [asI] at h, fun ⟨j, h, _⟩ => by omega⟩
  | J + 1 => by
    have ih := asI_iff vs k u J
    simp only [asI]
    cases hb : k.testBit (vs.length - 1 - J) with
    | false =>
      rw [if_neg (by simp), ih]
      constructor
      · rintro ⟨j, h1, h2, h3⟩; exact ⟨j, by omega, h2, h3⟩
      · rintro ⟨j, h1, h2, h3⟩
        refine ⟨j, ?_, h2, h3⟩
        by_cases e : j = J
        · rw [e, hb] at h3; cases h3
        · omega
    | true =>
      rw [if_pos rfl]
      by_cases e : u = vs.getD J 0
      · rw [e, Mgr.upd_same]
        exact ⟨fun _ => ⟨J, by omega, rfl, hb⟩, fun _ => rfl⟩
      · rw [Mgr.upd_other _ _ _ _ e, ih]
        constructor
        · rintro ⟨j, h1, h2, h3⟩; exact ⟨j, by omega, h2, h3⟩
        · rintro ⟨j, h1, h2, h3⟩
          refine ⟨j, ?_, h2, h3⟩
          by_cases e' : j = J
          · rw [e'] at h2; exact (e h2.symm).elim
          · omega
theorem asI_done {vs : List Nat} (nd : vs.Nodup) (k u : Nat) : asI vs k vs.length u = asK vs k u := by
  rw [Bool.eq_iff_iff, asI_iff]
  constructor
  · rintro ⟨j, h1, rfl, h3⟩
    rw [asK_at vs k nd j h1]; exact h3
  · intro h
    by_cases hu : u ∈ vs
    · obtain ⟨j, hj, rfl⟩ := List.getElem_of_mem hu
      have e : vs.getD j 0 = vs[j] := by rw [List.getD_eq_getElem?_getD, List.getElem?_eq_getElem hj]; rfl
      refine ⟨j, hj, e, ?_⟩
      rw [← e, asK_at vs k nd j hj] at h
      exact h
    · rw [asK_off vs k u hu] at h; cases h

def AsQ (w : World) (n : Nat) (vs : List Nat) (k gk : Nat) (s5 s6 : Value) (x : World) : Prop :=
  ∃ J i : Nat, J + gk = vs.length ∧ s6 = .int .i64 (J : Int) ∧ s5 = .int .i64 (i : Int) ∧ i < 2 ^ n ∧ (∀ u, u < n → i.testBit u = asI vs k J u) ∧ w = x

set_option maxRecDepth 100000 in
set_option maxHeartbeats 2000000 in
theorem assignment_ok {n : Nat} (hn : n ≤ 6) (vs : List Nat) (nd : vs.Nodup) (hlv : ∀ v, v ∈ vs → v < n) (hl : vs.length ≤ 6) (k : Nat) (hk : k < 64) {dv : Value} {w : World} (hd : SrcAt w dv 1 vs.length (vs.map natV)) :
    Calls Try.prog 108 #[dv, .int .i64 (k : Int)] w fun e w' => ∃ i : Nat, e = .returned (.int .i64 (i : Int)) ∧ i < 2 ^ n ∧ (∀ u, u < n → i.testBit u = asK vs k u) ∧ w = w' := by
  have HD := Lib.hid hd
  have ND := Lib.hid nd
  have LV := Lib.hid hlv
  have HN := Lib.hid hn
  obtain ⟨ao, cp, rfl⟩ := hd.form
  have hli : (vs.length : Int) ≤ 6 := by omega
  have J0 : Hid (AsQ w n vs k vs.length (.int .i64 0) (.int .i64 0) w) := Lib.hid ⟨0, 0, by omega, rfl, rfl, Nat.two_pow_pos n, fun u _ => by simp [asI], rfl⟩
  clear hd nd hlv hn
  go_enter Try.func108, Try.ntmps108
  go_wp2_with fail
  go_loopg [5, 6] vs.length (fun gk s5 s6 x => AsQ w n vs k gk s5 s6 x)
  case atStart => exact J0.out
  case round =>
    clear J0
    obtain ⟨J, i, hJ, rfl, rfl, hi, hb, hw⟩ := hrel
    subst hw
    have HJ := Lib.hid hJ
    by_cases hlt : J < vs.length
    · obtain ⟨g1, o1, c1, hv1, _, hcell⟩ := HD.out.cellAt (by omega)
      have hv2 : ao = some ⟨g1, o1, none⟩ := by injection hv1
      subst hv2
      have hc := hcell J (natV (vs.getD J 0)) (by simp [hlt])
      unfold natV at hc
      have hlti : (J : Int) < vs.length := by omega
      have hu : vs.getD J 0 < n := LV.out _ (by rw [List.getD_eq_getElem?_getD, List.getElem?_eq_getElem hlt]; exact List.getElem_mem hlt)
      have hu6 : vs.getD J 0 < 6 := by have := HN.out; omega
      have hi64 : i < 64 := by have := pow_le_64 HN.out; omega
      obtain ⟨a, ha⟩ : ∃ a : Nat, a = vs.length - 1 := ⟨_, rfl⟩
      obtain ⟨b, hbb⟩ : ∃ b : Nat, b = vs.length - 1 - J := ⟨_, rfl⟩
      have e1 : IntKind.i64.wrap ((vs.length : Int) - 1) = (a : Int) := by rw [show (vs.length : Int) - 1 = (a : Int) by omega]; exact IntWalk.i64_in _ ⟨by omega, by omega⟩
      have e1' : (vs.length : Int) - 1 = (a : Int) := by omega
      have e2 : IntKind.i64.wrap ((a : Int) - (J : Int)) = (b : Int) := by rw [show (a : Int) - (J : Int) = (b : Int) by omega]; exact IntWalk.i64_in _ ⟨by omega, by omega⟩
      have e2' : (a : Int) - (J : Int) = (b : Int) := by omega
      have hb6 : b < 6 := by omega
      have h2 : (0 : Int) ≤ b := by omega
      have h3 : (b : Int) < 64 := by omega
      have hbit := bit_at (i := k) (v := b) hk hb6
      have STEP : Hid (k.testBit b = false → AsQ w n vs k (vs.length - (J + 1)) (.int .i64 (i : Int)) (.int .i64 ((J + 1 : Nat) : Int)) w) := Lib.hid (fun h => ⟨J + 1, i, by omega, rfl, rfl, hi, fun u hun => by
        rw [hb u hun]
        simp only [asI]
        rw [← hbb, h, if_neg (by simp)], rfl⟩)
      have STEP2 : Hid (k.testBit b = true → AsQ w n vs k (vs.length - (J + 1)) (.int .i64 (sbt i (vs.getD J 0) : Int)) (.int .i64 ((J + 1 : Nat) : Int)) w) := Lib.hid (fun h => ⟨J + 1, sbt i (vs.getD J 0), by omega, rfl, rfl, fix_lt HN.out hu hi true, fun u hun => by
        have h5 := fix_bits HN.out hu hi true u hun
        unfold bitsOf at h5
        rw [show sbt i (vs.getD J 0) = fixb i (vs.getD J 0) true from rfl, h5]
        simp only [asI]
        rw [← hbb, h, if_pos rfl]
        unfold Mgr.upd
        split
        · rfl
        · exact hb u hun, rfl⟩)
      clear hcell hv1 hJ hi hb ha hbb
      generalize vs.getD J 0 = v at *
      have hp := shl_pow (n := v) (by omega)
      have h0 : (0 : Int) ≤ v := by omega
      have h1 : (v : Int) < 64 := by omega
      obtain ⟨_, ho⟩ := clr_fin ⟨i, hi64⟩ ⟨v, hu6⟩
      simp only at ho
      cases hkb : k.testBit b with
      | false =>
        rw [hkb] at hbit
        have JN := Lib.hid (STEP.out hkb)
        clear STEP STEP2 hkb ho
        go_wp2_with fail
        go_roundg (vs.length - (J + 1))
        case measure => have := HJ.out; omega
        case rel => exact JN.out
      | true =>
        rw [hkb] at hbit
        have JN := Lib.hid (STEP2.out hkb)
        clear STEP STEP2 hkb
        generalize sbt i v = k2 at *
        go_wp2_with fail
        go_roundg (vs.length - (J + 1))
        case measure => have := HJ.out; omega
        case rel => exact JN.out
    · obtain rfl : J = vs.length := by omega
      have hge : ¬ (vs.length : Int) < vs.length := by omega
      have FIN : Hid (∃ i' : Nat, Ending.returned (.int .i64 (i : Int)) = .returned (.int .i64 (i' : Int)) ∧ i' < 2 ^ n ∧ (∀ u, u < n → i'.testBit u = asK vs k u) ∧ w = w) := Lib.hid ⟨i, rfl, hi, fun u hu => by rw [hb u hu, asI_done ND.out], rfl⟩
      clear hJ hlt hi hb
      go_wp2_with fail
      go_ret
      obtain ⟨i', h1, h2, h3, _⟩ := FIN.out
      exact ⟨i', h1, h2, h3, rfl⟩

/-! ### Count -/
def RcR (w : World) (F : Bfn) (vs : List Nat) (gk : Nat) (s5 s6 : Value) (x : World) : Prop :=
  ∃ K, K + gk = 2 ^ vs.length ∧ s6 = .int .i64 (K : Int) ∧ s5 = .int .i64 ((cntR F vs K : Nat) : Int) ∧ w = x
theorem cntR_le (F : Bfn) (vs : List Nat) : ∀ K, cntR F vs K ≤ K
  | 0 => Nat.le_refl _
  | K + 1 => by have := cntR_le F vs K; simp only [cntR]; split <;> omega

set_option maxRecDepth 100000 in
set_option maxHeartbeats 2000000 in
theorem RCount_ok {n : Nat} (hn : n ≤ 6) (vs : List Nat) (nd : vs.Nodup) (hlv : ∀ v, v ∈ vs → v < n) (hl : vs.length ≤ 6) {B : Nat} {fv dv : Value} {F : Bfn} {w : World} (hF : Upto n F) (hf : Tb B w fv (tab n F)) (hd : SrcAt w dv 1 vs.length (vs.map natV)) :
    Calls Try.prog 71 #[fv, dv] w fun e w' => e = .returned (.int .i64 ((cntL F vs : Nat) : Int)) ∧ w = w' := by
  have AS := Lib.hid (fun (k : Nat) (hk : k < 64) => assignment_ok hn vs nd hlv hl k hk hd)
  have CELL : Hid (∀ (g c : Nat), fv = .slice (some ⟨g, 0, none⟩) (2 ^ n) c → ∀ (i k : Nat), i < 2 ^ n → (∀ u, u < n → i.testBit u = asK vs k u) → w.cell? ⟨g, i, none⟩ = some (.bool (F (asK vs k)))) := Lib.hid (fun g c e i k hi hb => by
    rw [e] at hf
    rw [hf.cellAt (Kp.refl _ _) hi, hF (bitsOf i) (asK vs k) (fun u hu => hb u hu)])
  obtain ⟨g, c, rfl, _⟩ := hf.form
  have CELL' := Lib.hid (CELL.out g c rfl)
  have hN := pow_le_64 hn
  have hV : 2 ^ vs.length ≤ 64 := by
    have := Nat.pow_le_pow_right (n := 2) (by omega) hl
    omega
  have hp := shl_pow (n := vs.length) hl
  have hli : (vs.length : Int) ≤ 6 := by omega
  have hl0 : (0 : Int) ≤ vs.length := by omega
  have hl64 : (vs.length : Int) < 64 := by omega
  have CA := Lib.hid (cntR_all vs F)
  obtain ⟨ao, cp, rfl⟩ := hd.form
  have J0 : Hid (RcR w F vs (2 ^ vs.length) (.int .i64 0) (.int .i64 0) w) := Lib.hid ⟨0, by omega, rfl, rfl, rfl⟩
  clear hf hF hd hlv nd CELL
  generalize 2 ^ n = N at *
  go_enter Try.func71, Try.ntmps71
  go_wp2_with fail
  go_loopg [5, 6] (2 ^ vs.length) (fun gk s5 s6 x => RcR w F vs gk s5 s6 x)
  case atStart => exact J0.out
  case round =>
    clear J0
    obtain ⟨K, hK, rfl, rfl, hw⟩ := hrel
    subst hw
    have HK := Lib.hid hK
    by_cases hlt : K < 2 ^ vs.length
    · have A1 := Lib.hid (AS.out K (by omega))
      have CI := Lib.hid (fun i => CELL'.out i K)
      have JN : Hid (RcR w F vs (2 ^ vs.length - (K + 1)) (.int .i64 ((cntR F vs (K + 1) : Nat) : Int)) (.int .i64 ((K + 1 : Nat) : Int)) w) := Lib.hid ⟨K + 1, by omega, rfl, rfl, rfl⟩
      have EC : cntR F vs (K + 1) = cntR F vs K + if F (asK vs K) then 1 else 0 := rfl
      have hcl := cntR_le F vs K
      generalize cntR F vs (K + 1) = c1 at *
      generalize cntR F vs K = c0 at *
      have hV2 : ((2 ^ vs.length : Nat) : Int) ≤ 64 := by omega
      have hlti : (K : Int) < ((2 ^ vs.length : Nat) : Int) := by omega
      clear hK
      generalize 2 ^ vs.length = V at *
      go_wp2_with fail
      refine A1.out.mono ?_
      rintro e w' ⟨i, rfl, hi, hb, rfl⟩
      have ci := CI.out i hi hb
      have hii : (i : Int) < N := by omega
      clear hb CI A1
      generalize F (asK vs K) = b at *
      cases b with
      | false =>
        rw [if_neg (by simp), Nat.add_zero] at EC
        subst EC
        go_wp2_with fail
        go_roundg (V - (K + 1))
        case measure => have := HK.out; omega
        case rel => exact JN.out
      | true =>
        rw [if_pos rfl] at EC
        subst EC
        go_wp2_with fail
        go_roundg (V - (K + 1))
        case measure => have := HK.out; omega
        case rel => exact JN.out
    · obtain rfl : K = 2 ^ vs.length := by omega
      rw [CA.out]
      have hlti : ¬ ((2 ^ vs.length : Nat) : Int) < ((2 ^ vs.length : Nat) : Int) := by omega
      clear hK hlt
      generalize 2 ^ vs.length = V at *
      go_wp2_with fail
      go_ret
      exact ⟨rfl, rfl⟩

/-! ### Least -/
def RlPost (w : World) (F : Bfn) (vs : List Nat) (e : Ending) (w' : World) : Prop :=
  ((∀ a, F a = false) ∧ e = .returned (.tuple #[.slice none 0 0, .bool false]) ∧ w = w') ∨
  ((∃ a, F a = true) ∧ ∃ a c, e = .returned (.tuple #[.slice a vs.length c, .bool true]) ∧ w'.ownsRow w.heap.size 4 1 (.slice a vs.length c) vs.length ((lsV F vs).map .bool) ∧ Kp No w w')
def RlO (w : World) (F : Bfn) (vs : List Nat) (gk : Nat) (s6 : Value) (x : World) : Prop :=
  ∃ K : Nat, K + gk = 2 ^ vs.length ∧ s6 = .int .i64 (K : Int) ∧ (∀ j, j < K → F (asK vs j) = false) ∧ w = x
def RlI (w : World) (m K gk : Nat) (s7 s8 : Value) (x : World) : Prop :=
  ∃ (e d : Nat) (v : Value), e = gk ∧ e + d = m ∧ s8 = .int .i64 ((e : Int) - 1) ∧ v = s7 ∧ x.ownsRow w.heap.size 4 1 v d (((bitsL m K).take d).map .bool) ∧ Kp No w x
theorem bitsL_take {m K J d : Nat} (h : J + 1 + d = m) : (bitsL m K).take (d + 1) = (bitsL m K).take d ++ [K.testBit J] := by
  have hd : d < m := by omega
  have h2 := bitsL_at m K d hd
  rw [List.take_add_one, h2, show m - 1 - d = J by omega]
  rfl

set_option maxRecDepth 100000 in
set_option maxHeartbeats 4000000 in
theorem RLeast_ok {n : Nat} (hn : n ≤ 6) (vs : List Nat) (nd : vs.Nodup) (hlv : ∀ v, v ∈ vs → v < n) (hl : vs.length ≤ 6) {B : Nat} {fv dv : Value} {F : Bfn} {w : World} (hF : Upto n F) (dep : DepL F vs) (hf : Tb B w fv (tab n F)) (hd : SrcAt w dv 1 vs.length (vs.map natV)) :
    Calls Try.prog 70 #[fv, dv] w (RlPost w F vs) := by
  obtain ⟨j0, hj0, hy0, hy1, hy2⟩ := info_parts info_bool
  have AS := Lib.hid (fun (k : Nat) (hk : k < 64) => assignment_ok hn vs nd hlv hl k hk hd)
  have CELL : Hid (∀ (g c : Nat), fv = .slice (some ⟨g, 0, none⟩) (2 ^ n) c → ∀ (i k : Nat), i < 2 ^ n → (∀ u, u < n → i.testBit u = asK vs k u) → w.cell? ⟨g, i, none⟩ = some (.bool (F (asK vs k)))) := Lib.hid (fun g c e i k hi hb => by
    rw [e] at hf
    rw [hf.cellAt (Kp.refl _ _) hi, hF (bitsOf i) (asK vs k) (fun u hu => hb u hu)])
  obtain ⟨g, c, rfl, _⟩ := hf.form
  have CELL' := Lib.hid (CELL.out g c rfl)
  have hN := pow_le_64 hn
  have hV : 2 ^ vs.length ≤ 64 := by
    have := Nat.pow_le_pow_right (n := 2) (by omega) hl
    omega
  have hp := shl_pow (n := vs.length) hl
  have hli : (vs.length : Int) ≤ 6 := by omega
  have hl0 : (0 : Int) ≤ vs.length := by omega
  have hl64 : (vs.length : Int) < 64 := by omega
  have NOC := Lib.hid (fun h => dep.no nd h)
  have LAW := Lib.hid (least_law vs nd dep)
  obtain ⟨ao, cp, rfl⟩ := hd.form
  have J0 : Hid (RlO w F vs (2 ^ vs.length) (.int .i64 0) w) := Lib.hid ⟨0, by omega, rfl, fun j h => by omega, rfl⟩
  clear hf hF hd hlv nd CELL dep
  generalize 2 ^ n = N at *
  go_enter Try.func70, Try.ntmps70
  go_wp2_with fail
  go_loopg [6, 7, 8] (2 ^ vs.length) (fun gk s6 s7 s8 x => RlO w F vs gk s6 x)
  case atStart => exact J0.out
  case round =>
    clear J0
    obtain ⟨K, hK, rfl, hno, hw⟩ := hrel
    subst hw
    have HK := Lib.hid hK
    have HNO := Lib.hid hno
    clear hno
    by_cases hlt : K < 2 ^ vs.length
    · have A1 := Lib.hid (AS.out K (by omega))
      have CI := Lib.hid (fun i => CELL'.out i K)
      have hV2 : ((2 ^ vs.length : Nat) : Int) ≤ 64 := by omega
      have hlti : (K : Int) < ((2 ^ vs.length : Nat) : Int) := by omega
      have hK64 : K < 64 := by omega
      have HLT := Lib.hid hlt
      have MV : Hid (∀ V, V = 2 ^ vs.length → RlO w F vs (V - (K + 1)) (.int .i64 ((K + 1 : Nat) : Int)) w ∨ F (asK vs K) = true) := Lib.hid (fun V e => by
        subst e
        cases hb : F (asK vs K) with
        | true => exact .inr rfl
        | false => exact .inl ⟨K + 1, by omega, rfl, fun j hj => by
            by_cases e : j = K
            · rw [e]; exact hb
            · exact HNO.out j (by omega), rfl⟩)
      clear hK hlt
      generalize hVV : 2 ^ vs.length = V at *
      have MV2 := Lib.hid (MV.out V rfl)
      go_wp2_with fail
      refine A1.out.mono ?_
      rintro e w' ⟨i, rfl, hi, hb, rfl⟩
      have ci := CI.out i hi hb
      have hii : (i : Int) < N := by omega
      clear hb CI A1
      cases hb : F (asK vs K) with
      | false =>
        rw [hb] at ci
        have JN : Hid (RlO w F vs (V - (K + 1)) (.int .i64 ((K + 1 : Nat) : Int)) w) := Lib.hid (by
          rcases MV2.out with h | h
          · exact h
          · rw [hb] at h; cases h)
        clear hb hVV
        go_wp2_with fail
        go_roundg (V - (K + 1))
        case measure => have := HK.out; omega
        case rel => exact JN.out
      | true =>
        rw [hb] at ci
        have EL := Lib.hid (LAW.out K (by have := HLT.out; omega) hb (fun j hj => HNO.out j hj))
        have SAT : Hid (∃ a, F a = true) := Lib.hid ⟨_, hb⟩
        clear hb hVV MV MV2 CELL' NOC LAW AS
        generalize hm : vs.length = m at *
        have K0 : Hid (RlI w m K m (.slice none 0 0) (.int .i64 ((m : Int) - 1)) w) := Lib.hid ⟨m, 0, _, rfl, by omega, rfl, rfl, by simpa using World.ownsRow_nil _ _ _ _, Kp.refl _ _⟩
        have hmw : IntKind.i64.wrap ((m : Int) - 1) = (m : Int) - 1 := IntWalk.i64_in _ ⟨by omega, by omega⟩
        go_wp2_with fail
        go_loopg [7, 8] m (fun gk s7 s8 x => RlI w m K gk s7 s8 x)
        case atStart => exact K0.out
        case round =>
          clear K0
          obtain ⟨e, d, v, he, hd, h8, e7, own, kp⟩ := hrel
          subst e7
          have HE := Lib.hid he
          have OWN := Lib.hid own
          have KP := Lib.hid kp
          have HD := Lib.hid hd
          cases e with
          | zero =>
            obtain rfl : d = m := by omega
            have h8' := h8.trans (show Value.int .i64 (((0 : Nat) : Int) - 1) = .int .i64 (-1) from rfl)
            clear h8
            subst h8'
            obtain ⟨a, cc, rfl⟩ := rowForm own
            have FIN : Hid (RlPost w F vs (.returned (.tuple #[.slice a d cc, .bool true])) wr) := Lib.hid (.inr ⟨SAT.out, a, cc, by rw [hm], by
              rw [hm, ← EL.out]
              have h := OWN.out
              rw [List.take_of_length_le (by rw [bitsL_len]; omega)] at h
              exact h, KP.out⟩)
            clear own kp hd he
            go_wp2_with fail
            refine bodyPost_ret (v := .tuple #[.slice a d cc, .bool true]) (by simp [results, Try.results70, go_sem]) rfl FIN.out
          | succ J =>
            have h8' := h8.trans (show Value.int .i64 (((J + 1 : Nat) : Int) - 1) = .int .i64 (J : Int) by congr 1; omega)
            clear h8
            subst h8'
            have hbit := bit_at (i := K) (v := J) hK64 (by omega)
            have h2 : (0 : Int) ≤ J := by omega
            have h3 : (J : Int) < 64 := by omega
            have hJw : IntKind.i64.wrap ((J : Int) - 1) = (J : Int) - 1 := IntWalk.i64_in _ ⟨by omega, by omega⟩
            have hsz := kp.size
            have ET := Lib.hid (bitsL_take (K := K) hd)
            have own1 := own
            have hd6 : d ≤ 6 := by omega
            generalize hx : K.testBit J = xb at *
            clear own kp hd he hx
            go_upto_region 8 with (at_builtin; refine wpList_append_lies _ rfl (.tmp 30) (.tmp 36) _ rfl w.heap.size 4 j0 _ 1 1 Try.underlying44 hj0 hy0 hy1 hy2 rfl (by omega) v d (((bitsL m K).take d).map .bool) rfl (own1.alloc _) ⟨wr.heap.size, 0, none⟩ 1 1 [.bool xb] rfl rfl (World.news_of_block (heap_alloc_new _ _)) (by simp [Value.oneCell']) (by omega) (by unfold maxLen; omega) (by omega) (by simp; omega) (wr.heap.size + 1) (by simp) ?_; intro g5 cap5 w5 hown hgrow hat hlt2)
            have JN : Hid (RlI w m K J (.slice (some ⟨g5, 0, none⟩) (d + 1) cap5) (.int .i64 ((J : Int) - 1)) w5) := Lib.hid (by
              have kg : Kp (fun x => v.ownBlock = some x) wr w5 := grown_no (Kp.alloc _) hgrow
              refine ⟨J, d + 1, _, rfl, by have := HD.out; omega, rfl, rfl, ?_, KP.out.trans (A' := fun x => v.ownBlock = some x) (fun x h => .inr (OWN.out.lt x h).1) kg⟩
              rw [ET.out, List.map_append]
              exact hown)
            clear hown hgrow hat hlt2 own1 hbit
            go_wp2_with fail
            go_roundg J
            case measure => have := HE.out; omega
            case rel => exact JN.out
    · obtain rfl : K = 2 ^ vs.length := by omega
      have FIN : Hid (RlPost w F vs (.returned (.tuple #[.slice none 0 0, .bool false])) w) := Lib.hid (.inl ⟨NOC.out HNO.out, rfl, rfl⟩)
      have hlti : ¬ ((2 ^ vs.length : Nat) : Int) < ((2 ^ vs.length : Nat) : Int) := by omega
      clear hK hlt
      generalize 2 ^ vs.length = V at *
      go_wp2_with fail
      refine bodyPost_ret (v := .tuple #[.slice none 0 0, .bool false]) (by simp [results, Try.results70, go_sem]) rfl FIN.out

/-! ### Covers -/
def covB (n : Nat) (ls : List Int) (F : Bfn) : Bool := varsB n ls && distB ls && ((List.range n).filter fun u => depT n F u).all fun u => decide ((u : Int) ∈ ls)
def CvO (w1 : World) (sup : List Nat) (ls : List Int) (gk : Nat) (s8 : Value) (x : World) : Prop :=
  ∃ i : Nat, i + gk = sup.length ∧ s8 = .int .i64 (i : Int) ∧ (∀ j, j < i → ((sup.getD j 0 : Nat) : Int) ∈ ls) ∧ Kp No w1 x
def CvI (w1 : World) (ls : List Int) (u gk : Nat) (s9 s10 : Value) (x : World) : Prop :=
  ∃ k : Nat, k + gk = ls.length ∧ s10 = .int .i64 (k : Int) ∧ s9 = .bool (decide ((u : Int) ∈ ls.take k)) ∧ Kp No w1 x
theorem take_mem {ls : List Int} {k : Nat} {x : Int} (h : k < ls.length) : decide (x ∈ ls.take (k + 1)) = (decide (x ∈ ls.take k) || decide (ls.getD k 0 = x)) := by
  rw [Bool.eq_iff_iff, Bool.or_eq_true, decide_eq_true_iff, decide_eq_true_iff, decide_eq_true_iff, List.take_add_one, List.getElem?_eq_getElem h, List.getD_eq_getElem?_getD, List.getElem?_eq_getElem h]
  simp only [Option.toList_some, List.mem_append, List.mem_singleton, Option.getD_some]
  exact ⟨fun h => h.imp id Eq.symm, fun h => h.imp id Eq.symm⟩

set_option maxRecDepth 100000 in
set_option maxHeartbeats 4000000 in
theorem RCovers_ok {n : Nat} (hn : n ≤ 6) (ls : List Int) (hl : ls.length ≤ 1000000) {B : Nat} {fv dv : Value} {F : Bfn} {w : World} (hF : Upto n F) (hf : Tb B w fv (tab n F)) (hd : SrcAt w dv 1 ls.length (ls.map intV)) :
    Calls Try.prog 69 #[fv, dv, .int .i64 (n : Int)] w fun e w' => e = .returned (.bool (covB n ls F)) ∧ Kp No w w' := by
  have VB := Lib.hid (RVariables_ok n ls hl hd)
  have DI := Lib.hid (RDistinct_ok ls hl hd)
  have SU : Hid (∀ y, Kp No w y → Calls Try.prog 107 #[fv, .int .i64 (n : Int)] y (NatsPost y ((List.range n).filter fun u => depT n F u))) := Lib.hid (fun y k => RSupport_ok hn hF (hf.no k))
  have HD : Hid (∀ y, Kp No w y → SrcAt y dv 1 ls.length (ls.map intV)) := Lib.hid (fun y k => hd.no k)
  have hsl : ((List.range n).filter fun u => depT n F u).length ≤ 6 := by
    have := List.length_filter_le (fun u => depT n F u) (List.range n)
    rw [List.length_range] at this; omega
  obtain ⟨ok, hok⟩ : ∃ b, covB n ls F = b := ⟨_, rfl⟩
  rw [hok]
  unfold covB at hok
  obtain ⟨ao, cp, rfl⟩ := hd.form
  obtain ⟨gf, cf, rfl, _⟩ := hf.form
  have hli : (ls.length : Int) ≤ 1000000 := by omega
  clear hf hF hd
  generalize ((List.range n).filter fun u => depT n F u) = sup at *
  go_enter Try.func69, Try.ntmps69
  go_wp2_with fail
  refine VB.out.mono ?_
  rintro e w' ⟨rfl, rfl⟩
  cases hv : varsB n ls with
  | false =>
    rw [hv] at hok
    have hok' : false = ok := hok
    subst hok'
    go_wp2_with fail
    go_ret
    exact ⟨rfl, Kp.refl _ _⟩
  | true =>
    rw [hv, Bool.true_and] at hok
    clear hv VB
    go_wp2_with fail
    refine DI.out.mono ?_
    rintro e w1 ⟨rfl, m, hm⟩
    have K1 : Hid (Kp No w w1) := Lib.hid (by rw [hm]; exact Kp.drewN m)
    clear hm DI
    cases hdi : distB ls with
    | false =>
      rw [hdi] at hok
      have hok' : false = ok := hok
      subst hok'
      go_wp2_with fail
      go_ret
      exact ⟨rfl, K1.out⟩
    | true =>
      rw [hdi, Bool.true_and] at hok
      have OK := Lib.hid hok
      have S1 := Lib.hid (SU.out w1 K1.out)
      clear hdi hok SU
      go_wp2_with fail
      refine S1.out.mono ?_
      rintro e w2 ⟨sv, rfl, row, k2⟩
      obtain ⟨a2, c2, rfl⟩ := rowForm row
      have SR := Lib.hid (fun (y : World) (k : Kp No w2 y) => (SrcAt.of_row row).no k)
      have K2 := Lib.hid (K1.out.trans_no k2)
      have hsli : (sup.length : Int) ≤ 6 := by omega
      clear row k2 S1
      have J0 : Hid (CvO w2 sup ls sup.length (.int .i64 0) w2) := Lib.hid ⟨0, by omega, rfl, fun j h => by omega, Kp.refl _ _⟩
      go_wp2_with fail
      go_loopg [8, 9, 10] sup.length (fun gk s8 s9 s10 x => CvO w2 sup ls gk s8 x)
      case atStart => exact J0.out
      case round =>
        clear J0
        obtain ⟨i, hi, rfl, hin, kp⟩ := hrel
        have HI := Lib.hid hi
        have HIN := Lib.hid hin
        have KPO := Lib.hid kp
        clear hi hin kp
        by_cases hlt : i < sup.length
        · have hlti : (i : Int) < sup.length := by omega
          have K0 : Hid (CvI w2 ls (sup.getD i 0) ls.length (.bool false) (.int .i64 0) wr) := Lib.hid ⟨0, by omega, rfl, by simp, KPO.out⟩
          go_wp2_with fail
          go_loopg [9, 10] ls.length (fun gk s9 s10 x => CvI w2 ls (sup.getD i 0) gk s9 s10 x)
          case atStart => exact K0.out
          case round =>
            clear K0
            obtain ⟨k, hk, rfl, rfl, kp⟩ := hrel
            have HK := Lib.hid hk
            have KP := Lib.hid kp
            by_cases hlk : k < ls.length
            · have hlki : (k : Int) < ls.length := by omega
              obtain ⟨g1, o1, c1, hv1, _, hc1⟩ := (HD.out wr (K2.out.trans_no kp)).cellAt (by omega)
              obtain ⟨g3, o3, c3, hv3, _, hc3⟩ := (SR.out wr kp).cellAt (by omega)
              cases hv1
              cases hv3
              have d1 := hc1 k (intV (ls.getD k 0)) (by simp [hlk])
              have d2 := hc3 i (natV (sup.getD i 0)) (by simp [hlt])
              unfold intV at d1
              unfold natV at d2
              have TM := take_mem (x := ((sup.getD i 0 : Nat) : Int)) hlk
              have NX : Hid (∀ y, Kp No wr y → CvI w2 ls (sup.getD i 0) (ls.length - (k + 1)) (.bool (decide (((sup.getD i 0 : Nat) : Int) ∈ ls.take (k + 1)))) (.int .i64 ((k + 1 : Nat) : Int)) y) := Lib.hid (fun y ky => ⟨k + 1, by omega, rfl, rfl, KP.out.trans_no ky⟩)
              rw [TM] at NX
              clear hc1 hc3 hk kp TM
              generalize decide (((sup.getD i 0 : Nat) : Int) ∈ ls.take k) = b at *
              cases b with
              | true =>
                rw [Bool.true_or] at NX
                generalize ls.getD k 0 = x0 at *
                generalize sup.getD i 0 = u0 at *
                go_wp2_with fail
                go_quiet (fail)
                go_wp2_with fail
                go_roundg (ls.length - (k + 1))
                case measure => have := HK.out; omega
                case rel => exact NX.out _ (Kp.drewN _)
              | false =>
                rw [Bool.false_or] at NX
                generalize ls.getD k 0 = x0 at *
                generalize sup.getD i 0 = u0 at *
                go_wp2_with fail
                go_quiet (fail)
                go_wp2_with fail
                go_roundg (ls.length - (k + 1))
                case measure => have := HK.out; omega
                case rel => exact NX.out _ (Kp.drewN _)
            · obtain rfl : k = ls.length := by omega
              rw [List.take_length]
              have hge : ¬ (ls.length : Int) < ls.length := by omega
              clear hk hlk kp
              by_cases hm : ((sup.getD i 0 : Nat) : Int) ∈ ls
              · have hd : decide (((sup.getD i 0 : Nat) : Int) ∈ ls) = true := decide_eq_true hm
                rw [hd]
                have JN : Hid (CvO w2 sup ls (sup.length - (i + 1)) (.int .i64 ((i + 1 : Nat) : Int)) wr) := Lib.hid ⟨i + 1, by have := HI.out; omega, rfl, fun j hj => by
                  by_cases e : j = i
                  · rw [e]; exact hm
                  · exact HIN.out j (by omega), KP.out⟩
                clear hm hd
                go_wp2_with fail
                go_roundg (sup.length - (i + 1))
                case measure => have := HI.out; omega
                case rel => exact JN.out
              · have hd : decide (((sup.getD i 0 : Nat) : Int) ∈ ls) = false := decide_eq_false hm
                rw [hd]
                obtain rfl : ok = false := by
                  cases ok
                  · rfl
                  · have h := List.all_eq_true.1 OK.out (sup.getD i 0) (by rw [List.getD_eq_getElem?_getD, List.getElem?_eq_getElem hlt]; exact List.getElem_mem hlt)
                    exact (hm (of_decide_eq_true h)).elim
                clear hm hd
                go_wp2_with fail
                go_ret
                exact ⟨rfl, K2.out.trans_no KP.out⟩
        · obtain rfl : i = sup.length := by have := HI.out; omega
          have hge : ¬ (sup.length : Int) < sup.length := by omega
          obtain rfl : ok = true := by
            rw [← OK.out, List.all_eq_true]
            intro u hu
            obtain ⟨j, hj, rfl⟩ := List.getElem_of_mem hu
            have := HIN.out j hj
            rw [List.getD_eq_getElem?_getD, List.getElem?_eq_getElem hj] at this
            exact decide_eq_true this
          clear hlt
          go_wp2_with fail
          go_ret
          exact ⟨rfl, K2.out.trans_no KPO.out⟩

end Go.Proofs.Ytngbodmooddjbaa
