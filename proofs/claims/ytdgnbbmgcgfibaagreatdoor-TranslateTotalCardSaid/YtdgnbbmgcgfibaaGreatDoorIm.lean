/-
 Walks: translate.packetVariables, Image and Preimage in full.
-/
import Derived.Test.YtdgnbbmgcgfibaaGreatDoorPj
import Derived.Test.YtdgnbbmgcgfibaaGreatDoorTn
import Derived.Test.YtdgnbbmgcgfibaaGreatDoorXe
namespace Go.Proofs.YtdgnbbmgcgfibaaGreatDoor
open Go.RowKit

def fo (k : Nat) : Nat := [0, 32, 64, 72, 88, 104].getD k 0
theorem fo_ff {k : Nat} (h : k < 5) : fo k = ff k ∧ fo (k + 1) = fo k + fw k ∧ fo k ≤ 104 := by rcases five h with rfl | rfl | rfl | rfl | rfl <;> decide
def PvJ (w : World) (nx : Bool) (gk : Nat) (s3 s6 : Value) (x : World) : Prop := ∃ (k : Nat) (v : Value), k + gk = 5 ∧ s6 = .int .i64 (k : Int) ∧ v = s3 ∧ x.ownsRow w.heap.size 3 1 v (fo k) ((hvK nx (fo k)).map natV) ∧ Kp No w x
def PvI (w : World) (nx : Bool) (f n gk : Nat) (s3 s11 : Value) (x : World) : Prop := ∃ (k : Nat) (v : Value), k + gk = n ∧ s11 = .int .i64 (k : Int) ∧ v = s3 ∧ x.ownsRow w.heap.size 3 1 v (f + k) ((hvK nx (f + k)).map natV) ∧ Kp No w x
set_option maxRecDepth 100000 in
set_option maxHeartbeats 4000000 in
theorem pvars_ok (nx : Bool) (w : World) (g : Gl w) :
  Calls Tryz.prog 38 #[.bool nx] w fun e w' => ∃ a c, e = .returned (.slice a 104 c) ∧ w'.ownsRow w.heap.size 3 1 (.slice a 104 c) 104 ((hvK nx 104).map natV) ∧ Kp No w w' := by
 obtain ⟨i0, hi0, hz0, hz1, hz2⟩ := info_parts info_int
 have GLW := Lib.hid g
 clear g
 go_enter Tryz.func38, Tryz.ntmps38
 go_wp2_with fail
 go_loopg [3, 6] 5 (fun gk s3 s6 x => PvJ w nx gk s3 s6 x)
 case atStart => exact ⟨0, _, by omega, rfl, rfl, World.ownsRow_nil _ _ _ _, Kp.refl _ _⟩
 case round =>
  obtain ⟨k, v3, hk, rfl, e6, row, kp⟩ := hrel
  subst e6
  have HK := Lib.hid hk
  have KP := Lib.hid kp
  by_cases hlt : k < 5
  ·have HLT := Lib.hid hlt
   have hlti : (k : Int) < 5 := by omega
   obtain ⟨f1, f2, f3⟩ := fo_ff hlt
   have WD := Lib.hid (Width_in k hlt (GLW.out.no kp))
   have HV := Lib.hid (fun (y : World) (q : Kp No w y) (b : Nat) (hb : b < fw k) => HVar_in k b nx hlt hb (GLW.out.no q))
   have F2 := Lib.hid f2
   have F1 := Lib.hid f1
   have hfw := fw_le k
   have hfb : fo k + fw k ≤ 104 := by have := ff_fw hlt; omega
   have FB := Lib.hid hfb
   obtain ⟨n, hn⟩ : ∃ n, fw k = n := ⟨_, rfl⟩
   have FV : Hid (∀ b, fvar k b nx = hvar (fo k + b) nx) := Lib.hid (fun b => by unfold fvar; rw [F1.out])
   rw [hn] at WD F2 FB hfw
   simp only [hn] at HV
   have FN : Hid (fo (k + 1) = fo k + n) := F2
   generalize fo k = f at *
   have row0 : wr.ownsRow w.heap.size 3 1 v3 (f + 0) ((hvK nx (f + 0)).map natV) := row
   have ROW0 := Lib.hid row0
   have hni : (n : Int) ≤ 32 := by omega
   clear hk kp row hlt f1 f2 f3 hn row0 hfb F1 F2
   go_wp2_with fail
   refine WD.out.mono ?_
   rintro e w' ⟨rfl, rfl⟩
   clear WD
   go_wp2_with fail
   generalize wr = W1 at *
   go_loopg [3, 11] n (fun gk s3 s11 x => PvI w nx f n gk s3 s11 x)
   case atStart => exact ⟨0, _, by omega, rfl, rfl, ROW0.out, KP.out⟩
   case round =>
    obtain ⟨b, v4, hb, rfl, e11, row, kp⟩ := hrel
    subst e11
    have HB := Lib.hid hb
    have KQ := Lib.hid kp
    have ROW := Lib.hid row
    by_cases hlb : b < n
    ·have HLB := Lib.hid hlb
     have hlbi : (b : Int) < n := by omega
     have VW := Lib.hid (HV.out wr kp b hlb)
     have hsz := kp.size
     have hcb : f + b ≤ 104 := by have := FB.out; omega
     have SN := Lib.hid (hvK_succ nx (f + b))
     have vk := FV.out b
     rw [vk] at VW
     generalize hvar (f + b) nx = v at *
     have row1 := row
     generalize hvK nx (f + b) = lst at *
     generalize hm : f + b = m at *
     have HM := Lib.hid hm
     clear hm
     clear hb kp row hlb vk
     go_wp2_with fail
     refine VW.out.mono ?_
     rintro e w' ⟨rfl, rfl⟩
     clear VW
     go_upto_region 9 with (at_builtin; refine wpList_append_lies _ rfl (.tmp 14) (.tmp 19) _ rfl w.heap.size 3 i0 _ 1 8 Tryz.underlying94 hi0 hz0 hz1 hz2 rfl (by omega) v4 m (lst.map natV) rfl (row1.alloc _) ⟨wr.heap.size, 0, none⟩ 1 1 [.int .i64 (v : Int)] rfl rfl (World.news_of_block (heap_alloc_new _ _)) (by simp [Value.oneCell']) (by omega) (by unfold maxLen; omega) (by omega) (by simp; omega) (wr.heap.size + 1) (by simp) ?_; intro g cap z hown hgrow hat hlt2)
     have JN : Hid (PvI w nx f n (n - (b + 1)) (.slice (some ⟨g, 0, none⟩) (m + 1) cap) (.int .i64 ((b + 1 : Nat) : Int)) z) := Lib.hid (by
      have kg : Kp (fun z => v4.ownBlock = some z) wr z := grown_no (Kp.alloc _) hgrow
      refine ⟨b + 1, _, by have := HLB.out; omega, rfl, rfl, ?_, KQ.out.trans (A' := fun z => v4.ownBlock = some z) (fun z hz => .inr (ROW.out.lt z hz).1) kg⟩
      rw [show f + (b + 1) = m + 1 by have := HM.out; omega, SN.out, List.map_append]
      exact hown)
     clear hown hgrow hat hlt2 row1
     go_wp2
     go_roundg (n - (b + 1))
     case measure => have := HB.out; have := HLB.out; omega
     case rel => exact JN.out
    ·obtain rfl : b = n := by have := HB.out; omega
     have hge : ¬ (b : Int) < b := by omega
     have JN : Hid (PvJ w nx (5 - (k + 1)) v4 (.int .i64 ((k + 1 : Nat) : Int)) wr) := Lib.hid ⟨k + 1, v4, by have := HLT.out; omega, rfl, rfl, by rw [FN.out]; exact ROW.out, KQ.out⟩
     clear hb kp row hlb HV
     go_wp2
     go_roundg (5 - (k + 1))
     case measure => have := HK.out; have := HLT.out; omega
     case rel => exact JN.out
  ·obtain rfl : k = 5 := by omega
   have e : fo 5 = 104 := rfl
   rw [e] at row
   obtain ⟨a, c, rfl⟩ := rowForm row
   have RET : Hid (∃ a' c', Ending.returned (.slice a 104 c) = .returned (.slice a' 104 c') ∧ wr.ownsRow w.heap.size 3 1 (.slice a' 104 c') 104 ((hvK nx 104).map natV) ∧ Kp No w wr) := Lib.hid ⟨a, c, rfl, row, kp⟩
   clear kp row hk hlt e
   go_wp2
   go_ret
   exact RET.out

theorem curB_ok {c : Nat} {M : Mgr} {B : List (Int × Bfn)} {f : Int} {F : Bfn} (q : Qk 220 c M B) (hf : (f, F) ∈ B) (h : ∀ v, v < 220 → nxV v = true → ∀ a : Nat → Bool, F (Mgr.upd a v false) = F (Mgr.upd a v true)) : curB M f = true := by
 obtain ⟨hv1, hs⟩ := q.at hf
 obtain ⟨k, rfl, sk, _⟩ := Mgr.valid_nat q.wf hv1
 have e : ∀ x, M.sem k x = F x := fun x => by have := hs x; rw [Int.toNat_natCast] at this; exact this
 unfold curB
 rw [hv1, Bool.and_true]
 have : (M.supM (k : Int)).any nxV = false := List.any_eq_false.2 (fun v hv hn => by
  unfold Mgr.supM at hv
  rw [if_pos hv1, Int.toNat_natCast] at hv
  obtain ⟨hlt, a, ha⟩ := (Mgr.supp_iff q.wf sk v).1 hv
  rw [e, e] at ha
  exact ha (h v (by rw [← q.nn]; exact hlt) hn a))
 rw [this]
 rfl
theorem im_front {p : Nat} {M : Mgr} {L : Lay} (f : Int) {w : World} (R : Rep w p M L) (hn : M.n = 220) : Calls Tryz.prog 35 #[ptr p, .int .i64 f] w fun e w' => e = .returned (.bool (curB M f)) ∧ Kp No w w' := by
 have := Current_ok f R (by omega) (fun v hv => by have := supM_lt v hv; omega) (by have := supM_len (M := M) (f := f); omega)
 exact this
set_option maxRecDepth 100000 in
set_option maxHeartbeats 2000000 in
theorem Image_ok {p c : Nat} {M : Mgr} {L : Lay} {w : World} {B : List (Int × Bfn)} {r f : Int} {F G : Bfn} {N s : Nat} (R : Rep w p M L) (b : Qk 220 c M B) (g : Gl w) (ho : ¬ L.at p 0) (hr : (r, F) ∈ B) (hf : (f, G) ∈ B) (hcur : curB M f = true)
  (hN : ∀ M : Mgr, M.n = 220 → M.Plain → Listed (M.ProF (hvK false 104) (fun a => F a && G a)) N) (hs : PSt 220 (exQ (hvK false 104) (fun a => F a && G a)) s) (hc : c + N + (1105 * s + 220) ≤ 4000000000000) :
  Calls Tryz.prog 14 #[ptr p, .int .i64 r, .int .i64 f] w (OpQ p 220 (c + N + (1105 * s + 220)) L w (rnF xch (exQ (hvK false 104) (fun a => F a && G a))) B) := by
 have H := Lib.hid (Hf.start R b g ho)
 have VA := Lib.hid (ValidQ R b hr)
 have CU := Lib.hid (im_front f R b.nn)
 rw [hcur] at CU
 have HN := Lib.hid hN
 have HS := Lib.hid hs
 have HC := Lib.hid hc
 have HR := Lib.hid hr
 have HF := Lib.hid hf
 clear R b g ho hcur hN hs hc hr hf
 go_enter Tryz.func14, Tryz.ntmps14
 go_wp2_with fail
 refine VA.out.mono ?_
 rintro e w' ⟨rfl, rfl⟩
 go_wp2_with fail
 refine CU.out.mono ?_
 rintro e w1 ⟨rfl, k1⟩
 have H1 := Lib.hid (H.out.no k1)
 clear k1 VA CU
 go_wp2_with fail
 refine (pvars_ok false w1 H1.out.gl).mono ?_
 rintro e w2 ⟨a, cc, rfl, row, k2⟩
 have H2 := Lib.hid (H1.out.no k2)
 have AE := Lib.hid (AndExQ H2.out.rep H2.out.qk HR.out HF.out (hvK false 104) (by rw [hvK_len]; omega) hvK_lt (by omega) (dv := .slice a 104 cc) (by have := SrcAt.of_row row; rw [hvK_len]; exact this) HN.out (by have := HC.out; omega))
 clear row k2
 go_wp2_with fail
 refine AE.out.mono ?_
 intro e w3 o
 obtain ⟨x, M3, L3, rfl, nn, f3⟩ := H2.out.step o
 have H3 := Lib.hid f3
 have EX := Lib.hid (ExchangeQ f3.rep f3.qk (List.Mem.head _) HS.out (by have := HC.out; omega))
 clear o nn f3 AE
 go_wp2_with fail
 refine EX.out.mono ?_
 intro e w4 o
 obtain ⟨z, M4, L4, rfl, nn, f4⟩ := H3.out.step o
 have RET := Lib.hid (f4.ret (B0 := B) (List.Mem.head _) (fun y hy => List.Mem.tail _ (List.Mem.tail _ hy)) (Nat.le_refl _))
 clear o nn f4 EX
 go_wp2_with fail
 go_ret
 exact RET.out
set_option maxRecDepth 100000 in
set_option maxHeartbeats 2000000 in
theorem Preimage_ok {p c : Nat} {M : Mgr} {L : Lay} {w : World} {B : List (Int × Bfn)} {r f : Int} {F G : Bfn} {N s : Nat} (R : Rep w p M L) (b : Qk 220 c M B) (g : Gl w) (ho : ¬ L.at p 0) (hr : (r, F) ∈ B) (hf : (f, G) ∈ B) (hcur : curB M f = true)
  (hN : ∀ M : Mgr, M.n = 220 → M.Plain → Listed (M.ProF (hvK true 104) (fun a => F a && rnF xch G a)) N) (hs : PSt 220 G s) (hc : c + (1105 * s + 220) + N ≤ 4000000000000) :
  Calls Tryz.prog 13 #[ptr p, .int .i64 r, .int .i64 f] w (OpQ p 220 (c + (1105 * s + 220) + N) L w (exQ (hvK true 104) (fun a => F a && rnF xch G a)) B) := by
 have H := Lib.hid (Hf.start R b g ho)
 have VA := Lib.hid (ValidQ R b hr)
 have CU := Lib.hid (im_front f R b.nn)
 rw [hcur] at CU
 have HN := Lib.hid hN
 have HS := Lib.hid hs
 have HC := Lib.hid hc
 have HR := Lib.hid hr
 have HF := Lib.hid hf
 clear R b g ho hcur hN hs hc hr hf
 go_enter Tryz.func13, Tryz.ntmps13
 go_wp2_with fail
 refine VA.out.mono ?_
 rintro e w' ⟨rfl, rfl⟩
 go_wp2_with fail
 refine CU.out.mono ?_
 rintro e w1 ⟨rfl, k1⟩
 have H1 := Lib.hid (H.out.no k1)
 have EX := Lib.hid (ExchangeQ H1.out.rep H1.out.qk HF.out HS.out (by have := HC.out; omega))
 clear k1 VA CU
 go_wp2_with fail
 refine EX.out.mono ?_
 intro e w2 o
 obtain ⟨x, M2, L2, rfl, nn, f2⟩ := H1.out.step o
 have H2 := Lib.hid f2
 clear o nn f2 EX
 go_wp2_with fail
 refine (pvars_ok true w2 H2.out.gl).mono ?_
 rintro e w3 ⟨a, cc, rfl, row, k3⟩
 have H3 := Lib.hid (H2.out.no k3)
 have AE := Lib.hid (AndExQ H3.out.rep H3.out.qk (List.Mem.tail _ HR.out) (List.Mem.head _) (hvK true 104) (by rw [hvK_len]; omega) hvK_lt (by omega) (dv := .slice a 104 cc) (by have := SrcAt.of_row row; rw [hvK_len]; exact this) HN.out (by have := HC.out; omega))
 clear row k3
 go_wp2_with fail
 refine AE.out.mono ?_
 intro e w4 o
 obtain ⟨z, M4, L4, rfl, nn, f4⟩ := H3.out.step o
 have RET := Lib.hid (f4.ret (B0 := B) (List.Mem.head _) (fun y hy => List.Mem.tail _ (List.Mem.tail _ hy)) (Nat.le_refl _))
 clear o nn f4 AE
 go_wp2_with fail
 go_ret
 exact RET.out
end Go.Proofs.YtdgnbbmgcgfibaaGreatDoor
