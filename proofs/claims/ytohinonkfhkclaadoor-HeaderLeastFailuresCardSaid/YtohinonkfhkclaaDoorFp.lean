/-
  Plain mathematics of the laws of failures; 'AtMost' for every k.
-/
import Derived.Test.YtohinonkfhkclaaDoorKeep
import Derived.Test.YtohinonkfhkclaaDoorFk
namespace Go.Proofs.YtohinonkfhkclaaDoor
open Go.RowKit

def CmpL (w : World) (l1 l2 : List Int) (gk : Nat) (s5 : Value) (wr : World) : Prop := ∃ k m, k + gk = l1.length ∧ s5 = .int .i64 (k : Int) ∧ wr = w.drewN m ∧ ∀ i, i < k → l1[i]? = l2[i]?

set_option maxRecDepth 100000 in
set_option maxHeartbeats 1000000 in
theorem Ints_ok {a b : Value} {l1 l2 : List Int} {w : World} (ha : SrcAt w a 1 l1.length (l1.map intV)) (hb : SrcAt w b 1 l2.length (l2.map intV)) (hl : l1.length ≤ 1000000) :
    Calls Tryd.prog 18 #[a, b] w fun e w' => e = .returned (.bool (decide (l1 = l2))) ∧ ∃ m, w' = w.drewN m := by
  have HA := Lib.hid ha
  have HB := Lib.hid hb
  obtain ⟨aa, ca, rfl⟩ := ha.form
  obtain ⟨ab, cb, rfl⟩ := hb.form
  clear ha hb
  have hli : (l1.length : Int) ≤ 1000000 := by omega
  obtain ⟨r, hr⟩ : ∃ r, decide (l1 = l2) = r := ⟨_, rfl⟩
  rw [hr]
  have HR := Lib.hid hr
  clear hr
  by_cases hne : l1.length = l2.length
  case neg =>
    obtain rfl : r = false := by rw [← HR.out]; exact decide_eq_false (fun e => hne (by rw [e]))
    have hn2 : ((l1.length : Int) == (l2.length : Int)) = false := by simp; omega
    have hn3 : ((l1.length : Int) != (l2.length : Int)) = true := by simp; omega
    go_enter Tryd.func18, Tryd.ntmps18
    go_wp2_with fail
    go_ret
    exact ⟨rfl, 0, rfl⟩
  have J0 : Hid (CmpL w l1 l2 l1.length (.int .i64 0) w) := Lib.hid ⟨0, 0, by omega, rfl, rfl, fun i h => by omega⟩
  rw [← hne] at HB
  rw [← hne]
  go_enter Tryd.func18, Tryd.ntmps18
  go_wp2_with fail
  go_loopg [5] l1.length (fun gk s5 wr => CmpL w l1 l2 gk s5 wr)
  case atStart => exact J0.out
  case round =>
    clear J0
    obtain ⟨k, m, hk, rfl, hw, heq⟩ := hrel
    have HW := Lib.hid hw
    by_cases hlt : k < l1.length
    · have hlt2 : k < l2.length := by omega
      obtain ⟨g1, o1, c1, hv1, _, hc1⟩ := (HA.out.no (Kp.drewN m)).cellAt (by omega)
      obtain ⟨g2, o2, c2, hv2, _, hc2⟩ := (HB.out.no (Kp.drewN m)).cellAt (by omega)
      cases hv1
      cases hv2
      have f1 : wr.cell? ⟨g1, o1 + k, none⟩ = some (.int .i64 l1[k]) := by rw [hw]; exact hc1 k _ (by simp [intV, hlt])
      have f2 : wr.cell? ⟨g2, o2 + k, none⟩ = some (.int .i64 l2[k]) := by rw [hw]; exact hc2 k _ (by simp [intV, hlt2])
      have hlti : (k : Int) < l1.length := by omega
      have HK := Lib.hid hk
      by_cases hx : l1[k] = l2[k]
      · have JN : Hid (∀ d, CmpL w l1 l2 (l1.length - (k + 1)) (.int .i64 ((k + 1 : Nat) : Int)) (wr.drewN d)) := Lib.hid (fun d => ⟨k + 1, m + d, by omega, rfl, by rw [HW.out, World.drewN_drewN], fun i hi => by
          by_cases e : i = k
          · subst e; rw [List.getElem?_eq_getElem hlt, List.getElem?_eq_getElem hlt2, hx]
          · exact heq i (by omega)⟩)
        rw [← hx] at f2
        clear hk hw hc1 hc2 heq hx HR
        generalize l1[k] = x at *
        go_wp2_with fail
        go_quiet (fail)
        go_wp2_with fail
        go_roundg (l1.length - (k + 1))
        case measure => have := HK.out; omega
        case rel => exact JN.out _
      · obtain rfl : r = false := by rw [← HR.out]; exact decide_eq_false (fun e => by subst e; exact hx rfl)
        have hx1 : (l1[k] == l2[k]) = false := by simp [hx]
        have hx2 : (l1[k] != l2[k]) = true := by simp [hx]
        clear hk hw hc1 hc2 heq HR
        generalize l1[k] = x at *
        generalize l2[k] = y at *
        clear hx
        go_wp2_with fail
        go_quiet (fail)
        go_wp2_with fail
        go_ret
        exact ⟨rfl, _, by rw [HW.out, World.drewN_drewN]⟩
    · obtain rfl : k = l1.length := by omega
      obtain rfl : r = true := by
        rw [← HR.out]
        refine decide_eq_true (List.ext_getElem? (fun i => ?_))
        by_cases hi : i < l1.length
        · exact heq i hi
        · rw [List.getElem?_eq_none (by omega), List.getElem?_eq_none (by omega)]
      have hge : ¬ (l1.length : Int) < l1.length := by omega
      clear hk hw heq HR
      go_wp2_with fail
      go_ret
      exact ⟨rfl, m, HW.out⟩

end Go.Proofs.YtohinonkfhkclaaDoor

namespace Go.Proofs.YtohinonkfhkclaaDoor
open Go.RowKit

/-- What 'AtMost' denotes. -/
def mostF (links k : Int) : Bfn := if k < 0 then fun _ => false else atF (clN links 12) 12 (clN k 12)
theorem mostF_rd (links k : Int) : Rd 0 12 (mostF links k) := by
  unfold mostF; split
  · exact fun _ _ _ => rfl
  · exact atF_rd _ 12 _ (Nat.le_refl _)
theorem AtMost_any {p c : Nat} {M : Mgr} {L : Lay} {B : List (Int × Bfn)} (links k : Int) {w : World} (R : Rep w p M L) (q : Qk 220 c M B) (g : Gl w) (ho : ¬ L.at p 0) (hc : c ≤ 500000000000) :
    Calls Tryd.prog 40 #[ptr p, .int .i64 links, .int .i64 k] w (OpQ p 220 (c + 200000000) L w (mostF links k) B) := by
  unfold mostF
  by_cases h : k < 0
  · rw [if_pos h]
    refine (AtMost_neg links k h p w).mono ?_
    rintro e w' ⟨rfl, k1⟩
    have h0 : Hf w p L 220 c w' M L B := (Hf.start R q g ho).no k1
    exact h0.consts.ret (.head _) (fun x hx => .tail _ (.tail _ hx)) (by omega)
  · rw [if_neg h]
    exact AtMost_ok links k (by omega) R q g ho hc

theorem dwL_mem {x v : Nat} : v ∈ dwL x ↔ v < 12 ∧ x.testBit v = true := by
  unfold dwL dnL; rw [List.mem_filter, List.mem_range]
theorem dwL_lt {x v : Nat} (h : v ∈ dwL x) : v < 12 := (dwL_mem.1 h).1
theorem dwL_len (x : Nat) : (dwL x).length ≤ 12 := dnL_len _ _

/-- The assignment of a failure set. -/
def fas (xs : List Nat) : Nat → Bool := asg (gL (encF (dnF (xs.map Int.ofNat)) pkz pkz))
theorem fas_at (xs : List Nat) {v : Nat} (hv : v < 12) : fas xs v = decide (v ∈ xs) := by
  unfold fas
  rw [gL_at _ (by omega), enc_link _ _ _ hv]
  unfold dnF
  rw [decide_eq_decide]
  constructor
  · intro h
    obtain ⟨x, hx, e⟩ := List.mem_map.1 h
    have : x = v := by have := e; simp only [Int.ofNat_eq_natCast] at this; omega
    subst this; exact hx
  · intro h; exact List.mem_map.2 ⟨v, h, rfl⟩
theorem fas_dw (x : Nat) {v : Nat} (hv : v < 12) : fas (dwL x) v = x.testBit v := by
  rw [fas_at _ hv, Bool.eq_iff_iff, decide_eq_true_eq, dwL_mem]
  exact ⟨fun h => h.2, fun h => ⟨hv, h⟩⟩

theorem fcnt_dn (a : Nat → Bool) : ∀ i, i ≤ 12 → fcnt a i + (dnL a (12 - i)).length = (dnL a 12).length
  | 0, _ => by simp [fcnt]
  | i + 1, h => by
    have ih := fcnt_dn a i (by omega)
    rw [show 12 - i = (11 - i) + 1 by omega, dnL_succ, List.length_append] at ih
    rw [show 12 - (i + 1) = 11 - i by omega]
    simp only [fcnt]
    cases ha : a (11 - i) <;> rw [ha] at ih <;> simp at ih ⊢ <;> omega
theorem fcnt_dw (x : Nat) : fcnt (fas (dwL x)) 12 = (dwL x).length := by
  have h := fcnt_dn (fas (dwL x)) 12 (Nat.le_refl _)
  have e : dnL (fas (dwL x)) 12 = dwL x := by
    unfold dwL dnL
    refine List.filter_congr (fun v hv => ?_)
    exact fas_dw x (List.mem_range.1 hv)
  rw [e] at h
  simp [dnL] at h
  exact h

theorem clN_clamp (links : Int) : (clN links 12 : Int) = clamp3 links 0 12 := by
  unfold clN clamp3
  split
  · omega
  · split <;> omega

/-- A failure set is among those with at most k links below a number. -/
theorem most_fas (links k : Int) (x : Nat) : mostF links k (fas (dwL x)) = (decide (((dwL x).length : Int) ≤ max k (-1)) && (dwL x).all fun v => decide ((v : Int) < clamp3 links 0 12)) := by
  have hl := dwL_len x
  have hc := clN_clamp links
  unfold mostF
  by_cases h : k < 0
  · rw [if_pos h, decide_eq_false (by omega)]; rfl
  · rw [if_neg h, Bool.eq_iff_iff, atF_eq _ _ 12 _ (Nat.le_refl _), fcnt_dw, Bool.and_eq_true, decide_eq_true_eq, List.all_eq_true]
    have hk : (dwL x).length ≤ clN k 12 ↔ ((dwL x).length : Int) ≤ max k (-1) := by
      unfold clN; rw [if_neg h]; split <;> omega
    rw [hk]
    refine and_congr_right (fun _ => ⟨fun hh v hv => ?_, fun hh v _ hv ha => ?_⟩)
    · have h12 := dwL_lt hv
      have := hh v (by omega) h12 (by rw [fas_at _ h12]; exact decide_eq_true hv)
      exact decide_eq_true (by omega)
    · rw [fas_at _ hv, decide_eq_true_eq] at ha
      have := of_decide_eq_true (hh v ha)
      omega

theorem dnF_map (xs : List Nat) (v : Nat) : dnF (xs.map Int.ofNat) v = decide (v ∈ xs) := by
  unfold dnF
  rw [decide_eq_decide]
  constructor
  · intro h
    obtain ⟨x, hx, e⟩ := List.mem_map.1 h
    have : x = v := by have := e; simp only [Int.ofNat_eq_natCast] at this; omega
    subst this; exact hx
  · intro h; exact List.mem_map.2 ⟨v, h, rfl⟩
theorem dwL_ext {x y : Nat} (h : ∀ v, v < 12 → x.testBit v = y.testBit v) : dwL x = dwL y := by
  unfold dwL dnL
  exact List.filter_congr (fun v hv => h v (List.mem_range.1 hv))
theorem ofNat_inj {xs ys : List Nat} : xs.map Int.ofNat = ys.map Int.ofNat ↔ xs = ys := by
  constructor
  · intro h
    have := congrArg (List.map Int.toNat) h
    rw [List.map_map, List.map_map] at this
    have e : (Int.toNat ∘ Int.ofNat) = id := by funext n; simp
    rw [e, List.map_id, List.map_id] at this
    exact this
  · intro h; rw [h]
/-- A failure set is exactly another one. -/
theorem exact_fas (x y : Nat) : exF (dnF ((dwL y).map Int.ofNat)) 12 (fas (dwL x)) = decide ((dwL x).map Int.ofNat = (dwL y).map Int.ofNat) := by
  rw [Bool.eq_iff_iff, exF_eq _ _ 12 (Nat.le_refl _), decide_eq_true_eq, ofNat_inj]
  constructor
  · intro h
    refine dwL_ext (fun v hv => ?_)
    have := h v (by omega) hv
    rw [fas_dw x hv, dnF_map, Bool.eq_iff_iff, decide_eq_true_eq, dwL_mem] at this
    rw [Bool.eq_iff_iff, this]
    exact ⟨fun h => h.2, fun h => ⟨hv, h⟩⟩
  · intro h v _ hv
    rw [h, fas_at _ hv, dnF_map]
theorem exF_congr {T U : Nat → Bool} (h : ∀ v, v < 12 → T v = U v) (a : Nat → Bool) : exF T 12 a = exF U 12 a := by
  rw [Bool.eq_iff_iff, exF_eq _ _ 12 (Nat.le_refl _), exF_eq _ _ 12 (Nat.le_refl _)]
  exact ⟨fun hh v h1 h2 => by rw [hh v h1 h2, h v h2], fun hh v h1 h2 => by rw [hh v h1 h2, h v h2]⟩
theorem okL_dw (y : Nat) : okL ((dwL y).map Int.ofNat) = true := by
  rw [okL_true]
  intro k hk
  rw [List.length_map] at hk
  have hm : (dwL y)[k] ∈ dwL y := List.getElem_mem hk
  have := dwL_lt hm
  rw [List.getD_eq_getElem?_getD, List.getElem?_map, List.getElem?_eq_getElem hk]
  simp
  omega
theorem okL_append {l m : List Int} (h1 : okL l = true) (h2 : okL m = true) : okL (l ++ m) = true := by
  unfold okL at *; rw [List.all_append, h1, h2]; rfl
theorem nat_int_map (c : List Nat) : (c.map Int.ofNat).map intV = c.map natV := by rw [List.map_map]; rfl

end Go.Proofs.YtohinonkfhkclaaDoor
