/-
  Walks: 'Some' of the package failure; 'Exists', 'Under', 'Some' of a Ref that is not valid.
-/
import Derived.Test.YtohinonkfhkclaaDoorPf
import Derived.Test.YtohinonkfhkclaaDoorQa
import Derived.Deep.CutBlock
namespace Go.Proofs.YtohinonkfhkclaaDoor
open Go.RowKit

theorem others_len : others.length = 208 := by unfold others; simp
theorem others_one : ∀ u ∈ others.map natV, u.oneCell' = true := fun u hu => by obtain ⟨b, _, rfl⟩ := List.mem_map.1 hu; rfl
def othK (k : Nat) : List Nat := (List.range k).map fun i => 12 + i
theorem othK_succ (k : Nat) : othK (k + 1) = othK k ++ [12 + k] := by unfold othK; rw [List.range_succ, List.map_append]; rfl
theorem othK_len (k : Nat) : (othK k).length = k := by unfold othK; simp
def SmR (w : World) (gk : Nat) (s5 s6 : Value) (x : World) : Prop := ∃ k v, k + gk = 208 ∧ s6 = .int .i64 ((12 + k : Nat) : Int) ∧ v = s5 ∧ x.ownsRow w.heap.size 3 1 v (othK k).length ((othK k).map natV) ∧ Kp No w x

set_option maxRecDepth 100000 in
set_option maxHeartbeats 2000000 in
theorem Some_gen {p : Nat} {M : Mgr} {L : Lay} (f : Int) {w : World} (Post : Ending → World → Prop) (R : Rep w p M L) (hn : M.n = 220)
    (EX : ∀ (y : World) (v : Value), Kp No w y → SrcAt y v 1 others.length (others.map natV) → Calls Tryd.prog 62 #[ptr p, .int .i64 f, v] y Post) (FORM : ∀ e w', Post e w' → ∃ r, e = .returned (.int .i64 r)) :
    Calls Tryd.prog 31 #[ptr p, .int .i64 f] w Post := by
  obtain ⟨i0, hi0, hz0, hz1, hz2⟩ := info_parts info_int
  have VARS := Lib.hid (fun (y : World) (ky : Kp No w y) => vars_ok (R.no ky))
  rw [hn] at VARS
  unfold natV at VARS
  have EXH := Lib.hid EX
  have FH := Lib.hid FORM
  clear EX FORM R hn
  have J0 : Hid (SmR w 208 (.slice none 0 0) (.int .i64 12) w) := Lib.hid ⟨0, _, by omega, rfl, rfl, World.ownsRow_nil _ _ _ _, Kp.refl _ _⟩
  go_enter Tryd.func31, Tryd.ntmps31
  go_wp2_with fail
  go_loopg [5, 6] 208 (fun gk s5 s6 x => SmR w gk s5 s6 x)
  case atStart => exact J0.out
  case round =>
    clear J0
    obtain ⟨k, v, hk, rfl, e5, row, kp⟩ := hrel
    subst e5
    have VW := Lib.hid (VARS.out wr kp)
    by_cases hlt : k < 208
    · have HK := Lib.hid hk
      have KP := Lib.hid kp
      have ROW := Lib.hid row
      have hsz := kp.size
      have hln : (othK k).length ≤ 208 := by have := othK_len k; omega
      have SN := Lib.hid (othK_succ k)
      have hlti : ((12 + k : Nat) : Int) < 220 := by omega
      have hk0 : (0 : Int) ≤ ((12 + k : Nat) : Int) := by omega
      have hnx : ((12 + k : Nat) : Int) + 1 = ((12 + (k + 1) : Nat) : Int) := by omega
      have HNX := Lib.hid hnx
      clear hk kp hnx
      generalize othK k = lst at *
      generalize hvk : ((12 + k : Nat) : Int) = vk at *
      have HVK := Lib.hid hvk
      clear hvk
      go_wp2_with fail
      refine VW.out.mono ?_
      rintro e w' ⟨rfl, rfl⟩
      clear VW
      go_upto_region 4 with (at_builtin; refine wpList_append_lies _ rfl (.tmp 13) (.tmp 15) _ rfl w.heap.size 3 i0 _ 1 8 Tryd.underlying28 hi0 hz0 hz1 hz2 rfl (by omega) v lst.length (lst.map natV) rfl (row.alloc _) ⟨wr.heap.size, 0, none⟩ 1 1 [.int .i64 vk] rfl rfl (World.news_of_block (heap_alloc_new _ _)) (by simp [Value.oneCell']) (by omega) (by unfold maxLen; omega) (by omega) (by simp; omega) (wr.heap.size + 1) (by simp) ?_; intro g5 cap5 w3 hown hgrow hat hlt2)
      have JN : Hid (SmR w (208 - (k + 1)) (.slice (some ⟨g5, 0, none⟩) (lst.length + 1) cap5) (.int .i64 (vk + 1)) w3) := Lib.hid (by
        have kg : Kp (fun z => v.ownBlock = some z) wr w3 := grown_no (Kp.alloc _) hgrow
        refine ⟨k + 1, _, by omega, by rw [HNX.out], rfl, ?_, KP.out.trans (A' := fun z => v.ownBlock = some z) (fun z hz => .inr (ROW.out.lt z hz).1) kg⟩
        rw [SN.out, List.length_append, List.map_append]
        have h := hown
        rw [← HVK.out] at h
        exact h)
      clear hown hgrow hat hlt2 row
      go_wp2_with fail
      go_roundg (208 - (k + 1))
      case measure => have := HK.out; omega
      case rel => exact JN.out
    · obtain rfl : k = 208 := by omega
      have e : othK 208 = others := rfl
      rw [e] at row
      have EW := Lib.hid (EXH.out wr v kp (SrcAt.of_row row))
      clear kp row hk hlt e
      go_wp2_with fail
      refine VW.out.mono ?_
      rintro e w' ⟨rfl, rfl⟩
      clear VW
      go_wp2_with fail
      refine EW.out.mono ?_
      intro e w3 h3
      obtain ⟨r, rfl⟩ := FH.out e w3 h3
      have RET := Lib.hid h3
      clear h3 EW FH EXH
      go_wp2_with fail
      exact RET.out

theorem SomeQ {p c : Nat} {M : Mgr} {L : Lay} {w : World} {B : List (Int × Bfn)} {f : Int} {F : Bfn} (R : Rep w p M L) (b : Qk 220 c M B) (hf : (f, F) ∈ B) (hc : c + 53250 ≤ 1000000000000) :
    Calls Tryd.prog 31 #[ptr p, .int .i64 f] w (fun e w' => ∃ y, Kp No w y ∧ OpQ p 220 (c + 53250) L y (exQ others F) B e w') := by
  refine Some_gen f _ R b.nn (fun y v ky hv => (ExistsQ (R.no ky) b hf others (by rw [others_len]; omega) (fun u hu => (mem_others.1 hu).2) (by omega) hv (N := 53250) (fun M' h1 h2 => Listed.proF (m := 12) (b.rd hf) (fun u hu => ⟨fun h => (mem_others.1 h).1, fun h => mem_others.2 ⟨h, hu⟩⟩) (by omega) M' h1 h2) hc).mono (fun e w' h => ⟨y, ky, h⟩)) ?_
  rintro e w' ⟨y, _, r', M', ⟨_, he, _⟩, _⟩
  exact ⟨r', he⟩

/-! ### Refs that are not valid -/
theorem AndExists_neg {p : Nat} {M : Mgr} {L : Lay} (g : Int) {v : Value} {w : World} (R : Rep w p M L) :
    Calls Tryd.prog 80 #[ptr p, .int .i64 (-1), .int .i64 g, v] w fun e w' => e = .returned (.int .i64 (-1)) ∧ w = w' := by
  have VF := Lib.hid (valid_as (-1) false R (by unfold Mgr.valid; simp))
  clear R
  go_enter Tryd.func80, Tryd.ntmps80
  go_wp2_with fail
  refine VF.out.mono ?_
  rintro e w' ⟨rfl, rfl⟩
  go_wp2_with fail
  go_ret
  exact ⟨rfl, rfl⟩
theorem Exists_neg {p : Nat} {M : Mgr} {L : Lay} {v : Value} {w : World} (R : Rep w p M L) :
    Calls Tryd.prog 62 #[ptr p, .int .i64 (-1), v] w fun e w' => e = .returned (.int .i64 (-1)) ∧ w = w' := by
  have VF := Lib.hid (AndExists_neg 1 (v := v) R)
  clear R
  go_enter Tryd.func62, Tryd.ntmps62
  go_wp2_with fail
  refine VF.out.mono ?_
  rintro e w' ⟨rfl, rfl⟩
  go_wp2_with fail
  go_ret
  exact ⟨rfl, rfl⟩
theorem Some_neg {p : Nat} {M : Mgr} {L : Lay} {w : World} (R : Rep w p M L) (hn : M.n = 220) :
    Calls Tryd.prog 31 #[ptr p, .int .i64 (-1)] w fun e w' => e = .returned (.int .i64 (-1)) ∧ Kp No w w' :=
  Some_gen (-1) _ R hn (fun y v ky _ => (Exists_neg (R.no ky)).mono (fun e w' h => ⟨h.1, by rw [← h.2]; exact ky⟩)) (fun e w' h => ⟨_, h.1⟩)

end Go.Proofs.YtohinonkfhkclaaDoor
