/-
 Walks: 'variables', 'Exchange', 'Packet' of the package header.
-/
import Derived.Test.YtdgnbbmgcgfibaaGreatDoorHsm
import Derived.Test.YtdgnbbmgcgfibaaGreatDoorFo
import Derived.Test.YtdgnbbmgcgfibaaGreatDoorRm
import Derived.Deep.RegionHeld3
import Derived.Deep.CutBlock
namespace Go.Proofs.YtdgnbbmgcgfibaaGreatDoor
open Go.RowKit

def hvK (nx : Bool) (k : Nat) : List Nat := (List.range k).map fun i => hvar i nx
theorem hvK_succ (nx : Bool) (k : Nat) : hvK nx (k + 1) = hvK nx k ++ [hvar k nx] := by unfold hvK; rw [List.range_succ, List.map_append]; rfl
theorem hvK_len (nx : Bool) (k : Nat) : (hvK nx k).length = k := by unfold hvK; simp
theorem hvK_lt {nx : Bool} : ∀ v, v ∈ hvK nx 104 → v < 220 := fun v hv => by
 obtain ⟨i, hi, rfl⟩ := List.mem_map.1 hv
 exact hvar_lt (List.mem_range.1 hi) nx
def HvR (w : World) (nx : Bool) (gk : Nat) (s3 s5 : Value) (x : World) : Prop := ∃ k v, k + gk = 104 ∧ s5 = .int .i64 (k : Int) ∧ v = s3 ∧ x.ownsRow w.heap.size 3 1 v (hvK nx k).length ((hvK nx k).map natV) ∧ Kp No w x

set_option maxRecDepth 100000 in
set_option maxHeartbeats 2000000 in
theorem hvars_ok (nx : Bool) (w : World) :
  Calls Tryz.prog 73 #[.bool nx] w fun e w' => ∃ a c, e = .returned (.slice a 104 c) ∧ w'.ownsRow w.heap.size 3 1 (.slice a 104 c) 104 ((hvK nx 104).map natV) ∧ Kp No w w' := by
 obtain ⟨i0, hi0, hz0, hz1, hz2⟩ := info_parts info_int
 have VAR := Lib.hid (fun (y : World) (b : Nat) (hb : b ≤ 1000) => variable_ok' b nx hb y)
 have J0 : Hid (HvR w nx 104 (.slice none 0 0) (.int .i64 0) w) := Lib.hid ⟨0, _, by omega, rfl, rfl, World.ownsRow_nil _ _ _ _, Kp.refl _ _⟩
 go_enter Tryz.func73, Tryz.ntmps73
 go_wp2_with fail
 go_loopg [3, 5] 104 (fun gk s3 s5 x => HvR w nx gk s3 s5 x)
 case atStart => exact J0.out
 case round =>
  clear J0
  obtain ⟨k, v, hk, rfl, e5, row, kp⟩ := hrel
  subst e5
  by_cases hlt : k < 104
  ·have HK := Lib.hid hk
   have KP := Lib.hid kp
   have ROW := Lib.hid row
   have hsz := kp.size
   have hln : (hvK nx k).length ≤ 104 := by have := hvK_len nx k; omega
   have SN := Lib.hid (hvK_succ nx k)
   have hlti : (k : Int) < 104 := by omega
   have VW := Lib.hid (VAR.out wr k (by omega))
   clear hk kp VAR
   generalize hvK nx k = lst at *
   generalize hvar k nx = vk at *
   go_wp2_with fail
   refine VW.out.mono ?_
   rintro e w' ⟨rfl, rfl⟩
   clear VW
   go_wp2_with (at_builtin; refine wpList_append_lies _ rfl (.tmp 8) (.tmp 12) _ rfl w.heap.size 3 i0 _ 1 8 Tryz.underlying94 hi0 hz0 hz1 hz2 rfl (by omega) v lst.length (lst.map natV) rfl (row.alloc _) ⟨wr.heap.size, 0, none⟩ 1 1 [.int .i64 (vk : Int)] rfl rfl (World.news_of_block (heap_alloc_new _ _)) (by simp [Value.oneCell']) (by omega) (by unfold maxLen; omega) (by omega) (by simp; omega) (wr.heap.size + 1) (by simp) ?_; intro g5 cap5 w3 hown hgrow hat hlt2; have JN : Hid (HvR w nx (104 - (k + 1)) (.slice (some ⟨g5, 0, none⟩) (lst.length + 1) cap5) (.int .i64 ((k + 1 : Nat) : Int)) w3) := (Lib.hid (by
    have kg : Kp (fun z => v.ownBlock = some z) wr w3 := grown_no (Kp.alloc _) hgrow
    refine ⟨k + 1, _, by omega, rfl, rfl, ?_, KP.out.trans (A' := fun z => v.ownBlock = some z) (fun z hz => .inr (ROW.out.lt z hz).1) kg⟩
    rw [SN.out, List.length_append, List.map_append]
    exact hown)); clear hown hgrow hat hlt2 row)
   go_roundg (104 - (k + 1))
   case measure => have := HK.out; omega
   case rel => exact JN.out
  ·obtain rfl : k = 104 := by omega
   have e : (hvK nx 104).length = 104 := hvK_len nx 104
   rw [e] at row
   obtain ⟨a, c, rfl⟩ := rowForm row
   have RET := Lib.hid (show ∃ a' c', Ending.returned (.slice a 104 c) = .returned (.slice a' 104 c') ∧ wr.ownsRow w.heap.size 3 1 (.slice a' 104 c') 104 ((hvK nx 104).map natV) ∧ Kp No w wr from ⟨a, c, rfl, row, kp⟩)
   clear kp row hk hlt e VAR
   go_wp2_with fail
   go_ret
   exact RET.out

/-! ### 'Exchange' -/
def frX : List Nat := hvK false 104 ++ hvK true 104
def toX : List Nat := hvK true 104 ++ hvK false 104
theorem rnI_x : rnI 220 frX toX 208 = (List.range 220).map xch := by decide +kernel
theorem frX_len : frX.length = 208 := by unfold frX; rw [List.length_append, hvK_len, hvK_len]
theorem toX_len : toX.length = 208 := by unfold toX; rw [List.length_append, hvK_len, hvK_len]
theorem rnT_x : ∀ v, v < 220 → rnT 220 frX toX v = xch v := fun v hv => by
 unfold rnT; rw [frX_len, rnI_x, List.getD_eq_getElem?_getD, List.getElem?_map, List.getElem?_range hv]; rfl
theorem frX_nodup : frX.Nodup := by decide +kernel
theorem one_ints (l : List Nat) : ∀ u ∈ l.map natV, u.oneCell' = true := fun u hu => by obtain ⟨b, _, rfl⟩ := List.mem_map.1 hu; rfl

set_option maxRecDepth 100000 in
set_option maxHeartbeats 2000000 in
theorem Exchange_gen {p : Nat} (f : Int) {w : World} (Post : Ending → World → Prop)
  (EX : ∀ (y : World) (a b : Option Addr) (c d : Nat), Kp No w y → SrcAt y (.slice a 208 c) 1 208 (frX.map natV) → SrcAt y (.slice b 208 d) 1 208 (toX.map natV) → Calls Tryz.prog 74 #[ptr p, .int .i64 f, .slice a 208 c, .slice b 208 d] y Post) (FORM : ∀ e w', Post e w' → ∃ r, e = .returned (.int .i64 r)) :
  Calls Tryz.prog 37 #[ptr p, .int .i64 f] w Post := by
 obtain ⟨i0, hi0, hz0, hz1, hz2⟩ := info_parts info_int
 have HV0 := Lib.hid (hvars_ok false)
 have HV1 := Lib.hid (hvars_ok true)
 have HC := Lib.hid (one_ints (hvK false 104))
 have HN := Lib.hid (one_ints (hvK true 104))
 have EXH := Lib.hid EX
 have FH := Lib.hid FORM
 clear EX FORM
 have EF : Hid (frX.map natV = (hvK false 104).map natV ++ (hvK true 104).map natV) := Lib.hid (List.map_append)
 have ET : Hid (toX.map natV = (hvK true 104).map natV ++ (hvK false 104).map natV) := Lib.hid (List.map_append)
 generalize (hvK false 104).map natV = cur at *
 generalize (hvK true 104).map natV = nxt at *
 go_enter Tryz.func37, Tryz.ntmps37
 go_wp2_with fail
 refine (HV0.out w).mono ?_
 rintro e w1 ⟨a5, c5, rfl, r5, k1⟩
 go_wp2_with fail
 refine (HV1.out w1).mono ?_
 rintro e w2 ⟨a6, c6, rfl, r6, k2⟩
 go_wp2_with fail
 refine (HV0.out w2).mono ?_
 rintro e w3 ⟨a7, c7, rfl, r7, k3⟩
 have R5 := Lib.hid r5
 have R6 := Lib.hid r6
 have R7 := Lib.hid r7
 have K1 := Lib.hid k1
 have K2 := Lib.hid k2
 have K3 := Lib.hid k3
 have S6 := Lib.hid ((SrcAt.of_row r6).no k3)
 have hsz3 := k3.size
 have hsz2 := k2.size
 have hsz1 := k1.size
 clear r5 r6 r7 k1 k2 k3
 go_upto_region 3 with (at_builtin; refine wpList_append_src rfl _ _ rfl (base := w2.heap.size) (v := .slice a7 104 c7) Tryz.underlying94 hi0 hz0 hz1 hz2 rfl (by omega) rfl R7.out rfl S6.out HN.out (by unfold maxLen; omega) (by omega) hsz3 ?_; intro v1 w4 hown1 hgrow1 hat1)
 obtain ⟨a8, c8, rfl⟩ := rowForm hown1
 have R8 := Lib.hid hown1
 have KG1 := Lib.hid (Kp.grown hgrow1)
 have R6W := Lib.hid (ownsRow_kp (ownsRow_kp R6.out K3.out (fun _ _ x => x)) KG1.out (fun b hb hx => by have h1 := (R6.out.lt b hb).2; have h2 := (R7.out.lt b hx).1; omega))
 have S5 := Lib.hid ((((SrcAt.of_row R5.out).no K2.out).no K3.out).kp KG1.out (fun _ g o m c hv hx => by
  cases hv
  have ho : (Value.slice (some ⟨g, o, none⟩) 104 c5).ownBlock = some g := rfl
  have h1 := (R5.out.lt g ho).2; have h2 := (R7.out.lt g hx).1; omega))
 have hsz4 := KG1.out.size
 have hb1 : w1.heap.size ≤ w4.heap.size := by omega
 clear hown1 hgrow1 hat1 S6 R5
 go_upto_region 4 with (at_builtin; refine wpList_append_src rfl _ _ rfl (base := w1.heap.size) (v := .slice a6 104 c6) Tryz.underlying94 hi0 hz0 hz1 hz2 rfl (by omega) rfl R6W.out rfl S5.out HC.out (by unfold maxLen; omega) (by omega) hb1 ?_; intro v2 w5 hown2 hgrow2 hat2)
 obtain ⟨a9, c9, rfl⟩ := rowForm hown2
 have KG2 := Lib.hid (Kp.grown hgrow2)
 have ST := Lib.hid (SrcAt.of_row hown2)
 rw [← ET.out] at ST
 have SF := Lib.hid ((SrcAt.of_row R8.out).kp KG2.out (fun _ g o m c hv hx => by
  cases hv
  have ho : (Value.slice (some ⟨g, o, none⟩) (104 + 104) c8).ownBlock = some g := rfl
  have h1 := (R8.out.lt g ho).1; have h2 := (R6.out.lt g hx).2; omega))
 rw [← EF.out] at SF
 have KW : Hid (Kp No w w5) := Lib.hid (by
  have k4 : Kp No w w4 := ((K1.out.trans_no K2.out).trans_no K3.out).trans (A' := fun z => (Value.slice a7 104 c7).ownBlock = some z) (fun z hz => .inr (by have := (R7.out.lt z hz).1; omega)) KG1.out
  exact k4.trans (A' := fun z => (Value.slice a6 104 c6).ownBlock = some z) (fun z hz => .inr (by have := (R6W.out.lt z hz).1; omega)) KG2.out)
 have EW := Lib.hid (EXH.out w5 a8 a9 c8 c9 KW.out SF.out ST.out)
 clear hown2 hgrow2 hat2 KG2 ST SF KW S5 R6W R8 KG1 R7 R6
 go_wp2_with fail
 refine EW.out.mono ?_
 intro e w6 h6
 obtain ⟨r, rfl⟩ := FH.out e w6 h6
 have RET := Lib.hid h6
 clear h6 EW FH EXH
 go_wp2_with fail
 exact RET.out

theorem ExchangeQ {p c : Nat} {M : Mgr} {L : Lay} {w : World} {B : List (Int × Bfn)} {f : Int} {F : Bfn} {s : Nat} (R : Rep w p M L) (b : Qk 220 c M B) (hf : (f, F) ∈ B) (hs : PSt 220 F s) (hc : c + (1105 * s + 220) ≤ 4000000000000) :
  Calls Tryz.prog 37 #[ptr p, .int .i64 f] w (OpQ p 220 (c + (1105 * s + 220)) L w (rnF xch F) B) := by
 have rd := b.rd hf
 refine Exchange_gen f _ (fun y ao bo cc d ky hv hv2 => (RenameQ (R.no ky) b hf frX toX (by rw [frX_len, toX_len]) (by rw [frX_len]; omega) (fun v hv => ?_) (fun v hv => ?_) frX_nodup (by omega) (by omega) (by rw [frX_len]; exact hv) (by rw [toX_len]; exact hv2) (N := 1105 * s + 220) (fun M' h1 h2 => xch_listed rnT_x rd hs M' h1 h2) hc).mono (fun e w' h => ?_)) ?_
 ·unfold frX at hv; rcases List.mem_append.1 hv with h | h <;> exact hvK_lt _ h
 ·unfold toX at hv; rcases List.mem_append.1 hv with h | h <;> exact hvK_lt _ h
 ·rw [rn_eq rnT_x rd] at h
  exact OpQ.before ky h
 ·rintro e w' ⟨r, M', ⟨_, he, _⟩, _⟩
  exact ⟨r, he⟩
/-! ### 'Packet' -/
def PkR (wA : World) (p : Nat) (L : Lay) (c : Nat) (B : List (Int × Bfn)) (q : Pkt) (nx : Bool) (gk : Nat) (s7 s9 : Value) (x : World) : Prop :=
 ∃ j f M1 L1, j + gk = 5 ∧ s7 = .int .i64 f ∧ s9 = .int .i64 (4 - (j : Int)) ∧ Hf wA p L 220 (c + j * 10100000) x M1 L1 ((f, pkF q nx j) :: B)
end Go.Proofs.YtdgnbbmgcgfibaaGreatDoor
