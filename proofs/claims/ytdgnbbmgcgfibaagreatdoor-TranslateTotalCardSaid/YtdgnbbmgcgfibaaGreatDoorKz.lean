/-
  Walks: the check of path-vector routing (printed by gen_kz.py).
-/
import Derived.Test.YtdgnbbmgcgfibaaGreatDoorLp
import Derived.Test.YtdgnbbmgcgfibaaGreatDoorKw
namespace Go.Proofs.YtdgnbbmgcgfibaaGreatDoor
open Go.RowKit

set_option maxRecDepth 1000000 in
set_option maxHeartbeats 8000000 in
theorem checkRedist_any (cs : Array Value) (ao : Option Addr) (len cap : Nat) (into least most types : Int) (w : World) (ok : RtC w cs) (hf : Flat w rdK (.slice ao len cap)) (hlc : len ≤ cap) (hcm : cap ≤ 9223372036854775807) : Calls Tryz.prog 88 #[.agg cs, .slice ao len cap, .int .i64 into, .int .i64 least, .int .i64 most, .int .i64 types] w (AnyE w) := by
  have h0 := heap_alloc_new w (.cells cs 41)
  have BX : Hid (∀ y, Kp No (w.alloc (.cells cs 41)) y → y.heap[w.heap.size]? = some (.cells cs 41 (0, 0))) := Lib.hid (fun y k => (k.block _ (heap_lt h0) (fun h => h)).trans h0)
  have KA := Lib.hid (Kp.alloc (w := w) (.cells cs 41))
  have OK := Lib.hid ok
  clear h0 ok
  have FF := Lib.hid hf
  have HCM := Lib.hid hcm
  have hNb : (len : Int) ≤ 9223372036854775807 := by omega
  have hcmi : (cap : Int) ≤ 9223372036854775807 := by omega
  clear hf hcm
  by_cases hmx : 4 < len
  · have hmxi : (4 : Int) < len := by omega
    clear BX OK hmx
    go_enter Tryz.func88, Tryz.ntmps88
    go_upto_region 1 with fail
    generalize w.alloc (.cells cs 41) = X at *
    go_wp2
    go_ret
    exact ⟨_, rfl, KA.out⟩
  have hmxi : ¬ (4 : Int) < len := by omega
  clear hmx
  go_enter Tryz.func88, Tryz.ntmps88
  go_upto_region 1 with fail
  generalize w.alloc (.cells cs 41) = X at *
  go_wp2
  go_loopg [22] len (fun gk s x => LpI X len gk s x)
  case atStart => exact ⟨0, by omega, rfl, Kp.refl _ _⟩
  case round =>
    obtain ⟨k, hk, rfl, kp⟩ := hrel
    have HK := Lib.hid hk
    have KP := Lib.hid kp
    by_cases hlt : k < len
    · have hlti : (k : Int) < len := by omega
      have hkc : (k : Int) ≤ cap := by omega
      have hkl : (k : Int) ≤ len := by omega
      have HLT := Lib.hid hlt
      obtain ⟨g, o, a0, a1, a2, a3, a4, e, hg, ⟨c0, c1, c2, c3, c4⟩, h0, h1, h2, h3, h4⟩ := rd_at (FF.out.no (KA.out.trans_no kp)) hlt
      subst e
      have n0 := heap_alloc_new wr (.cells #[.int .i64 a0, .int .i64 a1, .int .i64 a2, .string a3, .int .i64 a4] 205)
      have KZ := Lib.hid (kp.trans_no (Kp.alloc (w := wr) (.cells #[.int .i64 a0, .int .i64 a1, .int .i64 a2, .string a3, .int .i64 a4] 205)))
      clear hk kp hg
      go_upto_region 6 with fail
      clear c0 c1 c2 c3 c4
      generalize wr.alloc (.cells #[.int .i64 a0, .int .i64 a1, .int .i64 a2, .string a3, .int .i64 a4] 205) = Z at *
      have NB : Hid (∀ y, Kp No Z y → y.heap[wr.heap.size]? = some (.cells #[.int .i64 a0, .int .i64 a1, .int .i64 a2, .string a3, .int .i64 a4] 205 (0, 0))) := Lib.hid (fun y q => (q.block _ (heap_lt n0) (fun h => h)).trans n0)
      have OZ := Lib.hid (OK.out.no (KA.out.trans_no KZ.out))
      obtain ⟨d0, d1, d2, d3, d4⟩ := cel5 n0
      clear n0
      clear h0 h1 h2 h3 h4
      have WI := Lib.hid (fun (n a c : Int) => within_ok n a c Z)
      have C1 := Lib.hid (RouteMap_any cs a3 Z OZ.out)
      by_cases hin : a0 = into
      · subst hin
        go_wp2_with fail
        refine (WI.out _ _ _).mono ?_
        rintro e y ⟨rfl, rfl⟩
        go_wp2
        all_goals (go_ret; exact ⟨_, rfl, KA.out.trans_no KZ.out⟩)
      go_wp2_with fail
      refine (WI.out _ _ _).mono ?_
      rintro e y ⟨rfl, rfl⟩
      generalize wiB a0 1 5 = q1
      cases q1
      · go_wp2
        go_ret
        exact ⟨_, rfl, KA.out.trans_no KZ.out⟩
      go_wp2_with fail
      refine (WI.out _ _ _).mono ?_
      rintro e y ⟨rfl, rfl⟩
      generalize wiB a1 least most = q2
      cases q2
      · go_wp2
        go_ret
        exact ⟨_, rfl, KA.out.trans_no KZ.out⟩
      go_wp2_with fail
      refine (WI.out _ _ _).mono ?_
      rintro e y ⟨rfl, rfl⟩
      generalize wiB a2 0 65535 = q3
      cases q3
      · go_wp2
        go_ret
        exact ⟨_, rfl, KA.out.trans_no KZ.out⟩
      by_cases htt : types < 1
      · go_wp2_with fail
        refine (WI.out _ _ _).mono ?_
        rintro e y ⟨rfl, rfl⟩
        generalize wiB a4 types types = q4
        cases q4
        · go_wp2
          go_ret
          exact ⟨_, rfl, KA.out.trans_no KZ.out⟩
        · rcases str_cases a3 with ⟨b9, b9'⟩ | ⟨b9, b9'⟩
          · clear d0 d1 d2 d3 d4
            obtain ⟨d0, d1, d2, d3, d4⟩ := cel5 (NB.out _ (Kp.refl No Z))
            have KQ := Lib.hid KZ.out
            have KNZ := Lib.hid (Kp.refl No Z)
            go_wp2
            go_loopg [74] k (fun gk s x => LpI Z k gk s x)
            case atStart => exact ⟨0, by omega, rfl, Kp.refl _ _⟩
            case round =>
              clear d0 d1 d2 d3 d4
              obtain ⟨j, hj, rfl, kj⟩ := hrel
              have HJ := Lib.hid hj
              have KJ := Lib.hid kj
              by_cases hltj : j < k
              · have hltji : (j : Int) < k := by omega
                have HLTJ := Lib.hid hltj
                obtain ⟨g', o', b0, b1, b2, b3, b4, e', hg', ⟨e0, e1, e2, e3, e4⟩, m0, m1, m2, m3, m4⟩ := rd_at (i := j) (FF.out.no (KA.out.trans_no (KQ.out.trans_no kj))) (by have := HLT.out; omega)
                cases e'
                have n1 := heap_alloc_new wr (.cells #[.int .i64 b0, .int .i64 b1, .int .i64 b2, .string b3, .int .i64 b4] 205)
                have KV := Lib.hid (kj.trans_no (Kp.alloc (w := wr) (.cells #[.int .i64 b0, .int .i64 b1, .int .i64 b2, .string b3, .int .i64 b4] 205)))
                clear hj kj hg'
                go_upto_region 13 with fail
                clear e0 e1 e2 e3 e4
                generalize wr.alloc (.cells #[.int .i64 b0, .int .i64 b1, .int .i64 b2, .string b3, .int .i64 b4] 205) = V at *
                obtain ⟨x0, _⟩ := cel5 n1
                obtain ⟨y0, _⟩ := cel5 (NB.out V (KNZ.out.trans_no KV.out))
                clear n1
                go_wp2
                all_goals first
                  | (go_ret; exact ⟨_, rfl, KA.out.trans_no (KQ.out.trans_no KV.out)⟩)
                  | (go_roundg (k - (j + 1))
                     case measure => have := HJ.out; have := HLTJ.out; omega
                     case rel => exact ⟨j + 1, by have := HJ.out; have := HLTJ.out; omega, by go_num, KV.out⟩)
              · obtain rfl : j = k := by omega
                have hgej : ¬ (j : Int) < j := by omega
                have KE := Lib.hid (KQ.out.trans_no kj)
                clear hj kj hltj
                go_wp2
                go_roundg (len - (j + 1))
                case measure => have := HK.out; have := HLT.out; omega
                case rel => exact ⟨j + 1, by have := HK.out; have := HLT.out; omega, by go_num, KE.out⟩
          · go_wp2_with (first | (refine wpList_load_rt rfl _ rfl w.heap.size rfl cs OK.out.sz (BX.out _ KZ.out) ?_))
            refine C1.out.mono ?_
            rintro e y ⟨i, rfl, ky, _, _⟩
            have KY := Lib.hid ky
            have K2 := Lib.hid (KZ.out.trans_no ky)
            clear d0 d1 d2 d3 d4 ky
            by_cases hi : i < 0
            · go_wp2
              go_ret
              exact ⟨_, rfl, KA.out.trans_no K2.out⟩
            · obtain ⟨d0, d1, d2, d3, d4⟩ := cel5 (NB.out _ KY.out)
              have KQ := Lib.hid K2.out
              have KNZ := Lib.hid KY.out
              go_wp2
              go_loopg [74] k (fun gk s x => LpI y k gk s x)
              case atStart => exact ⟨0, by omega, rfl, Kp.refl _ _⟩
              case round =>
                clear d0 d1 d2 d3 d4
                obtain ⟨j, hj, rfl, kj⟩ := hrel
                have HJ := Lib.hid hj
                have KJ := Lib.hid kj
                by_cases hltj : j < k
                · have hltji : (j : Int) < k := by omega
                  have HLTJ := Lib.hid hltj
                  obtain ⟨g', o', b0, b1, b2, b3, b4, e', hg', ⟨e0, e1, e2, e3, e4⟩, m0, m1, m2, m3, m4⟩ := rd_at (i := j) (FF.out.no (KA.out.trans_no (KQ.out.trans_no kj))) (by have := HLT.out; omega)
                  cases e'
                  have n1 := heap_alloc_new wr (.cells #[.int .i64 b0, .int .i64 b1, .int .i64 b2, .string b3, .int .i64 b4] 205)
                  have KV := Lib.hid (kj.trans_no (Kp.alloc (w := wr) (.cells #[.int .i64 b0, .int .i64 b1, .int .i64 b2, .string b3, .int .i64 b4] 205)))
                  clear hj kj hg'
                  go_upto_region 13 with fail
                  clear e0 e1 e2 e3 e4
                  generalize wr.alloc (.cells #[.int .i64 b0, .int .i64 b1, .int .i64 b2, .string b3, .int .i64 b4] 205) = V at *
                  obtain ⟨x0, _⟩ := cel5 n1
                  obtain ⟨y0, _⟩ := cel5 (NB.out V (KNZ.out.trans_no KV.out))
                  clear n1
                  go_wp2
                  all_goals first
                    | (go_ret; exact ⟨_, rfl, KA.out.trans_no (KQ.out.trans_no KV.out)⟩)
                    | (go_roundg (k - (j + 1))
                       case measure => have := HJ.out; have := HLTJ.out; omega
                       case rel => exact ⟨j + 1, by have := HJ.out; have := HLTJ.out; omega, by go_num, KV.out⟩)
                · obtain rfl : j = k := by omega
                  have hgej : ¬ (j : Int) < j := by omega
                  have KE := Lib.hid (KQ.out.trans_no kj)
                  clear hj kj hltj
                  go_wp2
                  go_roundg (len - (j + 1))
                  case measure => have := HK.out; have := HLT.out; omega
                  case rel => exact ⟨j + 1, by have := HK.out; have := HLT.out; omega, by go_num, KE.out⟩
      · go_wp2_with fail
        refine (WI.out _ _ _).mono ?_
        rintro e y ⟨rfl, rfl⟩
        generalize wiB a4 1 types = q4
        cases q4
        · go_wp2
          go_ret
          exact ⟨_, rfl, KA.out.trans_no KZ.out⟩
        · rcases str_cases a3 with ⟨b9, b9'⟩ | ⟨b9, b9'⟩
          · clear d0 d1 d2 d3 d4
            obtain ⟨d0, d1, d2, d3, d4⟩ := cel5 (NB.out _ (Kp.refl No Z))
            have KQ := Lib.hid KZ.out
            have KNZ := Lib.hid (Kp.refl No Z)
            go_wp2
            go_loopg [74] k (fun gk s x => LpI Z k gk s x)
            case atStart => exact ⟨0, by omega, rfl, Kp.refl _ _⟩
            case round =>
              clear d0 d1 d2 d3 d4
              obtain ⟨j, hj, rfl, kj⟩ := hrel
              have HJ := Lib.hid hj
              have KJ := Lib.hid kj
              by_cases hltj : j < k
              · have hltji : (j : Int) < k := by omega
                have HLTJ := Lib.hid hltj
                obtain ⟨g', o', b0, b1, b2, b3, b4, e', hg', ⟨e0, e1, e2, e3, e4⟩, m0, m1, m2, m3, m4⟩ := rd_at (i := j) (FF.out.no (KA.out.trans_no (KQ.out.trans_no kj))) (by have := HLT.out; omega)
                cases e'
                have n1 := heap_alloc_new wr (.cells #[.int .i64 b0, .int .i64 b1, .int .i64 b2, .string b3, .int .i64 b4] 205)
                have KV := Lib.hid (kj.trans_no (Kp.alloc (w := wr) (.cells #[.int .i64 b0, .int .i64 b1, .int .i64 b2, .string b3, .int .i64 b4] 205)))
                clear hj kj hg'
                go_upto_region 13 with fail
                clear e0 e1 e2 e3 e4
                generalize wr.alloc (.cells #[.int .i64 b0, .int .i64 b1, .int .i64 b2, .string b3, .int .i64 b4] 205) = V at *
                obtain ⟨x0, _⟩ := cel5 n1
                obtain ⟨y0, _⟩ := cel5 (NB.out V (KNZ.out.trans_no KV.out))
                clear n1
                go_wp2
                all_goals first
                  | (go_ret; exact ⟨_, rfl, KA.out.trans_no (KQ.out.trans_no KV.out)⟩)
                  | (go_roundg (k - (j + 1))
                     case measure => have := HJ.out; have := HLTJ.out; omega
                     case rel => exact ⟨j + 1, by have := HJ.out; have := HLTJ.out; omega, by go_num, KV.out⟩)
              · obtain rfl : j = k := by omega
                have hgej : ¬ (j : Int) < j := by omega
                have KE := Lib.hid (KQ.out.trans_no kj)
                clear hj kj hltj
                go_wp2
                go_roundg (len - (j + 1))
                case measure => have := HK.out; have := HLT.out; omega
                case rel => exact ⟨j + 1, by have := HK.out; have := HLT.out; omega, by go_num, KE.out⟩
          · go_wp2_with (first | (refine wpList_load_rt rfl _ rfl w.heap.size rfl cs OK.out.sz (BX.out _ KZ.out) ?_))
            refine C1.out.mono ?_
            rintro e y ⟨i, rfl, ky, _, _⟩
            have KY := Lib.hid ky
            have K2 := Lib.hid (KZ.out.trans_no ky)
            clear d0 d1 d2 d3 d4 ky
            by_cases hi : i < 0
            · go_wp2
              go_ret
              exact ⟨_, rfl, KA.out.trans_no K2.out⟩
            · obtain ⟨d0, d1, d2, d3, d4⟩ := cel5 (NB.out _ KY.out)
              have KQ := Lib.hid K2.out
              have KNZ := Lib.hid KY.out
              go_wp2
              go_loopg [74] k (fun gk s x => LpI y k gk s x)
              case atStart => exact ⟨0, by omega, rfl, Kp.refl _ _⟩
              case round =>
                clear d0 d1 d2 d3 d4
                obtain ⟨j, hj, rfl, kj⟩ := hrel
                have HJ := Lib.hid hj
                have KJ := Lib.hid kj
                by_cases hltj : j < k
                · have hltji : (j : Int) < k := by omega
                  have HLTJ := Lib.hid hltj
                  obtain ⟨g', o', b0, b1, b2, b3, b4, e', hg', ⟨e0, e1, e2, e3, e4⟩, m0, m1, m2, m3, m4⟩ := rd_at (i := j) (FF.out.no (KA.out.trans_no (KQ.out.trans_no kj))) (by have := HLT.out; omega)
                  cases e'
                  have n1 := heap_alloc_new wr (.cells #[.int .i64 b0, .int .i64 b1, .int .i64 b2, .string b3, .int .i64 b4] 205)
                  have KV := Lib.hid (kj.trans_no (Kp.alloc (w := wr) (.cells #[.int .i64 b0, .int .i64 b1, .int .i64 b2, .string b3, .int .i64 b4] 205)))
                  clear hj kj hg'
                  go_upto_region 13 with fail
                  clear e0 e1 e2 e3 e4
                  generalize wr.alloc (.cells #[.int .i64 b0, .int .i64 b1, .int .i64 b2, .string b3, .int .i64 b4] 205) = V at *
                  obtain ⟨x0, _⟩ := cel5 n1
                  obtain ⟨y0, _⟩ := cel5 (NB.out V (KNZ.out.trans_no KV.out))
                  clear n1
                  go_wp2
                  all_goals first
                    | (go_ret; exact ⟨_, rfl, KA.out.trans_no (KQ.out.trans_no KV.out)⟩)
                    | (go_roundg (k - (j + 1))
                       case measure => have := HJ.out; have := HLTJ.out; omega
                       case rel => exact ⟨j + 1, by have := HJ.out; have := HLTJ.out; omega, by go_num, KV.out⟩)
                · obtain rfl : j = k := by omega
                  have hgej : ¬ (j : Int) < j := by omega
                  have KE := Lib.hid (KQ.out.trans_no kj)
                  clear hj kj hltj
                  go_wp2
                  go_roundg (len - (j + 1))
                  case measure => have := HK.out; have := HLT.out; omega
                  case rel => exact ⟨j + 1, by have := HK.out; have := HLT.out; omega, by go_num, KE.out⟩

    · obtain rfl : k = len := by omega
      have hge : ¬ (k : Int) < k := by omega
      clear hk kp hlt
      go_wp2
      go_ret
      exact ⟨_, rfl, KA.out.trans_no KP.out⟩

end Go.Proofs.YtdgnbbmgcgfibaaGreatDoor

namespace Go.Proofs.YtdgnbbmgcgfibaaGreatDoor
open Go.RowKit

set_option maxRecDepth 1000000 in
set_option maxHeartbeats 8000000 in
theorem checkDistanceVector_any (cs : Array Value) (w : World) (ok : RtC w cs) : Calls Tryz.prog 52 #[.agg cs] w (AnyE w) := by
  have h0 := heap_alloc_new w (.cells cs 41)
  have BX : Hid (∀ y, Kp No (w.alloc (.cells cs 41)) y → y.heap[w.heap.size]? = some (.cells cs 41 (0, 0))) := Lib.hid (fun y k => (k.block _ (heap_lt h0) (fun h => h)).trans h0)
  have KA := Lib.hid (Kp.alloc (w := w) (.cells cs 41))
  have OK := Lib.hid ok
  clear h0 ok
  obtain ⟨bo, e12⟩ := OK.out.dvOn
  obtain ⟨ad, e13, _, _⟩ := OK.out.dvAd
  obtain ⟨si, e14⟩ := OK.out.dvIn
  obtain ⟨so, e15⟩ := OK.out.dvOut
  obtain ⟨rA, rN, rC, e16, rF, rB1, rB2⟩ := OK.out.dvRe
  have RF := Lib.hid (And.intro rF (And.intro rB1 rB2))
  have rB3 : (rN : Int) ≤ 9223372036854775807 := by omega
  clear rF rB1 rB2
  go_enter Tryz.func52, Tryz.ntmps52
  go_upto_region 1 with fail
  generalize w.alloc (.cells cs 41) = X at *
  have f12 : X.cell? ⟨w.heap.size, 12, none⟩ = some (.bool bo) := by rw [cell_of_row _ _ _ _ _ _ (BX.out X (Kp.refl _ _))]; exact e12
  have f13 : X.cell? ⟨w.heap.size, 13, none⟩ = some (.int .i64 ad) := by rw [cell_of_row _ _ _ _ _ _ (BX.out X (Kp.refl _ _))]; exact e13
  have f14 : X.cell? ⟨w.heap.size, 14, none⟩ = some (.string si) := by rw [cell_of_row _ _ _ _ _ _ (BX.out X (Kp.refl _ _))]; exact e14
  have f15 : X.cell? ⟨w.heap.size, 15, none⟩ = some (.string so) := by rw [cell_of_row _ _ _ _ _ _ (BX.out X (Kp.refl _ _))]; exact e15
  have f16 : X.cell? ⟨w.heap.size, 16, none⟩ = some (.slice rA rN rC) := by rw [cell_of_row _ _ _ _ _ _ (BX.out X (Kp.refl _ _))]; exact e16
  have n0 := heap_alloc_new X (.cells #[.bool bo, .int .i64 ad, .string si, .string so, .slice rA rN rC] 33)
  have KZ := Lib.hid (Kp.alloc (w := X) (.cells #[.bool bo, .int .i64 ad, .string si, .string so, .slice rA rN rC] 33))
  clear e12 e13 e14 e15 e16
  go_upto_region 2 with fail
  clear f12 f13 f14 f15 f16
  generalize X.alloc (.cells #[.bool bo, .int .i64 ad, .string si, .string so, .slice rA rN rC] 33) = Z at *
  have NB : Hid (∀ y, Kp No Z y → y.heap[X.heap.size]? = some (.cells #[.bool bo, .int .i64 ad, .string si, .string so, .slice rA rN rC] 33 (0, 0))) := Lib.hid (fun y q => (q.block _ (heap_lt n0) (fun h => h)).trans n0)
  have OZ := Lib.hid (OK.out.no (KA.out.trans_no KZ.out))
  obtain ⟨d0, d1, d2, d3, d4⟩ := cel5 n0
  clear n0
  have C1 := Lib.hid (fun (y : World) (q : Kp No Z y) => PrefixList_any cs si y (OZ.out.no q))
  have C2 := Lib.hid (fun (y : World) (q : Kp No Z y) => PrefixList_any cs so y (OZ.out.no q))
  have RD := Lib.hid (fun (y : World) (q : Kp No Z y) => checkRedist_any cs rA rN rC 4 1 15 0 y (OZ.out.no q) (RF.out.1.no ((KA.out.trans_no KZ.out).trans_no q)) RF.out.2.1 RF.out.2.2)
  cases bo
  · go_wp2
    all_goals (go_ret; exact ⟨_, rfl, KA.out.trans_no KZ.out⟩)
  · go_wp2_with fail
    refine (within_ok _ _ _ _).mono ?_
    rintro e y ⟨rfl, rfl⟩
    generalize wiB ad 1 255 = q1
    cases q1
    · go_wp2
      go_ret
      exact ⟨_, rfl, KA.out.trans_no KZ.out⟩
    · rcases str_cases si with ⟨b9, b9'⟩ | ⟨b9, b9'⟩
      · rcases str_cases so with ⟨b10, b10'⟩ | ⟨b10, b10'⟩
        · go_wp2_with (first | (refine wpList_load_rt rfl _ rfl w.heap.size rfl cs OK.out.sz (BX.out _ KZ.out) ?_))
          refine (RD.out _ (Kp.refl No Z)).mono ?_
          rintro e v ⟨n, rfl, kv⟩
          have KV := Lib.hid (KZ.out.trans_no kv)
          clear kv
          go_wp2
          go_ret
          exact ⟨_, rfl, KA.out.trans_no KV.out⟩
        · go_wp2_with (first | (refine wpList_load_rt rfl _ rfl w.heap.size rfl cs OK.out.sz (BX.out _ KZ.out) ?_))
          refine (C2.out _ (Kp.refl No Z)).mono ?_
          rintro e z ⟨i2, rfl, kz, _, _⟩
          have K3 := Lib.hid (KZ.out.trans_no kz)
          have KN3 := Lib.hid (Kp.trans_no (Kp.refl No Z) kz)
          clear kz d0 d1 d2 d3 d4
          obtain ⟨d0, d1, d2, d3, d4⟩ := cel5 (NB.out z KN3.out)
          by_cases hi2 : i2 < 0
          · go_wp2
            go_ret
            exact ⟨_, rfl, KA.out.trans_no K3.out⟩
          · go_wp2_with (first | (refine wpList_load_rt rfl _ rfl w.heap.size rfl cs OK.out.sz (BX.out _ K3.out) ?_))
            refine (RD.out _ KN3.out).mono ?_
            rintro e v ⟨n, rfl, kv⟩
            have KV := Lib.hid (K3.out.trans_no kv)
            clear kv
            go_wp2
            go_ret
            exact ⟨_, rfl, KA.out.trans_no KV.out⟩
      · go_wp2_with (first | (refine wpList_load_rt rfl _ rfl w.heap.size rfl cs OK.out.sz (BX.out _ KZ.out) ?_))
        refine (C1.out _ (Kp.refl No Z)).mono ?_
        rintro e y ⟨i, rfl, ky, _, _⟩
        have KY := Lib.hid ky
        have K2 := Lib.hid (KZ.out.trans_no ky)
        clear d0 d1 d2 d3 d4 ky
        obtain ⟨d0, d1, d2, d3, d4⟩ := cel5 (NB.out y KY.out)
        by_cases hi : i < 0
        · go_wp2
          go_ret
          exact ⟨_, rfl, KA.out.trans_no K2.out⟩
        · rcases str_cases so with ⟨b10, b10'⟩ | ⟨b10, b10'⟩
          · go_wp2_with (first | (refine wpList_load_rt rfl _ rfl w.heap.size rfl cs OK.out.sz (BX.out _ K2.out) ?_))
            refine (RD.out _ KY.out).mono ?_
            rintro e v ⟨n, rfl, kv⟩
            have KV := Lib.hid (K2.out.trans_no kv)
            clear kv
            go_wp2
            go_ret
            exact ⟨_, rfl, KA.out.trans_no KV.out⟩
          · go_wp2_with (first | (refine wpList_load_rt rfl _ rfl w.heap.size rfl cs OK.out.sz (BX.out _ K2.out) ?_))
            refine (C2.out _ KY.out).mono ?_
            rintro e z ⟨i2, rfl, kz, _, _⟩
            have K3 := Lib.hid (K2.out.trans_no kz)
            have KN3 := Lib.hid (Kp.trans_no KY.out kz)
            clear kz d0 d1 d2 d3 d4
            obtain ⟨d0, d1, d2, d3, d4⟩ := cel5 (NB.out z KN3.out)
            by_cases hi2 : i2 < 0
            · go_wp2
              go_ret
              exact ⟨_, rfl, KA.out.trans_no K3.out⟩
            · go_wp2_with (first | (refine wpList_load_rt rfl _ rfl w.heap.size rfl cs OK.out.sz (BX.out _ K3.out) ?_))
              refine (RD.out _ KN3.out).mono ?_
              rintro e v ⟨n, rfl, kv⟩
              have KV := Lib.hid (K3.out.trans_no kv)
              clear kv
              go_wp2
              go_ret
              exact ⟨_, rfl, KA.out.trans_no KV.out⟩

end Go.Proofs.YtdgnbbmgcgfibaaGreatDoor

namespace Go.Proofs.YtdgnbbmgcgfibaaGreatDoor
open Go.RowKit

set_option maxRecDepth 1000000 in
set_option maxHeartbeats 8000000 in
theorem checkNeighbors_any (cs : Array Value) (w : World) (ok : RtC w cs) : Calls Tryz.prog 89 #[.agg cs] w (AnyE w) := by
  have h0 := heap_alloc_new w (.cells cs 41)
  have BX : Hid (∀ y, Kp No (w.alloc (.cells cs 41)) y → y.heap[w.heap.size]? = some (.cells cs 41 (0, 0))) := Lib.hid (fun y k => (k.block _ (heap_lt h0) (fun h => h)).trans h0)
  have KA := Lib.hid (Kp.alloc (w := w) (.cells cs 41))
  have OK := Lib.hid ok
  clear h0 ok
  obtain ⟨pvNbA, pvNbN, pvNbC, pvNbE, pvNbF, pvNbB⟩ := OK.out.pvNb
  by_cases hmx : 8 < pvNbN
  · have hmxi : (8 : Int) < pvNbN := by omega
    have f2 : (w.alloc (.cells cs 41)).cell? ⟨w.heap.size, 20, none⟩ = some (.slice pvNbA pvNbN pvNbC) := by rw [cell_of_row _ _ _ _ _ _ (BX.out _ (Kp.refl _ _))]; exact pvNbE
    clear BX OK pvNbE pvNbF hmx
    go_enter Tryz.func89, Tryz.ntmps89
    go_upto_region 1 with fail
    generalize w.alloc (.cells cs 41) = X at *
    go_wp2
    go_ret
    exact ⟨_, rfl, KA.out⟩
  have hmxi : ¬ (8 : Int) < pvNbN := by omega
  clear hmx
  have FE := Lib.hid pvNbE
  have FF := Lib.hid pvNbF
  have hcmi : (pvNbC : Int) ≤ 9223372036854775807 := by have := pvNbB; omega
  have hncap : (pvNbN : Int) ≤ pvNbC := by have := pvNbB; omega
  have FB := Lib.hid pvNbB
  have hNb : (pvNbN : Int) ≤ 9223372036854775807 := by have := pvNbB; omega
  have CX : Hid (∀ y, Kp No (w.alloc (.cells cs 41)) y → y.cell? ⟨w.heap.size, 20, none⟩ = some (.slice pvNbA pvNbN pvNbC)) := Lib.hid (fun y q => by rw [cell_of_row _ _ _ _ _ _ (BX.out y q)]; exact FE.out)
  clear pvNbE pvNbF pvNbB
  go_enter Tryz.func89, Tryz.ntmps89
  go_upto_region 1 with fail
  generalize w.alloc (.cells cs 41) = X at *
  have f2 := CX.out X (Kp.refl _ _)
  go_wp2
  go_loopg [16] pvNbN (fun gk s x => LpI X pvNbN gk s x)
  case atStart => exact ⟨0, by omega, rfl, Kp.refl _ _⟩
  case round =>
    clear f2
    obtain ⟨k, hk, rfl, kp⟩ := hrel
    have HK := Lib.hid hk
    have KP := Lib.hid kp
    by_cases hlt : k < pvNbN
    · have hlti : (k : Int) < pvNbN := by omega
      have hkc : (k : Int) ≤ pvNbC := by omega
      have hkl : (k : Int) ≤ pvNbN := by omega
      have HLT := Lib.hid hlt
      obtain ⟨g, o, a0, a1, a2, a3, e, hg, ⟨c0, c1, c2, c3⟩, h0, h1, h2, h3⟩ := nb_at (FF.out.no (KA.out.trans_no kp)) hlt
      subst e
      have n0 := heap_alloc_new wr (.cells #[.int .u32 (a0 : Int), .int .i64 a1, .string a2, .string a3] 207)
      have KZ := Lib.hid (kp.trans_no (Kp.alloc (w := wr) (.cells #[.int .u32 (a0 : Int), .int .i64 a1, .string a2, .string a3] 207)))
      clear hk kp hg
      go_upto_region 6 with fail
      clear c0 c1 c2 c3
      generalize wr.alloc (.cells #[.int .u32 (a0 : Int), .int .i64 a1, .string a2, .string a3] 207) = Z at *
      have NB : Hid (∀ y, Kp No Z y → y.heap[wr.heap.size]? = some (.cells #[.int .u32 (a0 : Int), .int .i64 a1, .string a2, .string a3] 207 (0, 0))) := Lib.hid (fun y q => (q.block _ (heap_lt n0) (fun h => h)).trans n0)
      have OZ := Lib.hid (OK.out.no (KA.out.trans_no KZ.out))
      obtain ⟨d0, d1, d2, d3⟩ := cel4 n0
      clear n0
      clear h0 h1 h2 h3 hncap
      have WI := Lib.hid (fun (n a c : Int) => within_ok n a c Z)
      have C1 := Lib.hid (fun (y : World) (q : Kp No Z y) => RouteMap_any cs a2 y (OZ.out.no q))
      have C2 := Lib.hid (fun (y : World) (q : Kp No Z y) => RouteMap_any cs a3 y (OZ.out.no q))
      generalize wr = W1 at *
      by_cases hz : (a0 : Int) = 0
      · go_wp2
        go_ret
        exact ⟨_, rfl, KA.out.trans_no KZ.out⟩
      go_wp2_with fail
      refine (WI.out _ _ _).mono ?_
      rintro e y ⟨rfl, rfl⟩
      generalize wiB a1 1 65535 = q1
      cases q1
      · go_wp2
        go_ret
        exact ⟨_, rfl, KA.out.trans_no KZ.out⟩
      rcases str_cases a2 with ⟨b9, b9'⟩ | ⟨b9, b9'⟩
      · rcases str_cases a3 with ⟨b10, b10'⟩ | ⟨b10, b10'⟩
        · clear d0 d1 d2 d3
          obtain ⟨d0, d1, d2, d3⟩ := cel4 (NB.out _ (Kp.refl No Z))
          have f20 := CX.out _ KZ.out
          have KQ := Lib.hid KZ.out
          have KNZ := Lib.hid (Kp.refl No Z)
          go_wp2
          go_loopg [58] k (fun gk s x => LpI Z k gk s x)
          case atStart => exact ⟨0, by omega, rfl, Kp.refl _ _⟩
          case round =>
            clear d0 d1 d2 d3 f20
            obtain ⟨j, hj, rfl, kj⟩ := hrel
            have HJ := Lib.hid hj
            have KJ := Lib.hid kj
            by_cases hltj : j < k
            · have hltji : (j : Int) < k := by omega
              have HLTJ := Lib.hid hltj
              obtain ⟨g', o', b0, b1, b2, b3, e', hg', ⟨e0, e1, e2, e3⟩, m0, m1, m2, m3⟩ := nb_at (i := j) (FF.out.no (KA.out.trans_no (KQ.out.trans_no kj))) (by have := HLT.out; omega)
              cases e'
              have n1 := heap_alloc_new wr (.cells #[.int .u32 (b0 : Int), .int .i64 b1, .string b2, .string b3] 207)
              have KV := Lib.hid (kj.trans_no (Kp.alloc (w := wr) (.cells #[.int .u32 (b0 : Int), .int .i64 b1, .string b2, .string b3] 207)))
              clear hj kj hg' m0 m1 m2 m3
              go_upto_region 13 with fail
              clear e0 e1 e2 e3
              generalize wr.alloc (.cells #[.int .u32 (b0 : Int), .int .i64 b1, .string b2, .string b3] 207) = V at *
              obtain ⟨x0, _⟩ := cel4 n1
              obtain ⟨y0, _⟩ := cel4 (NB.out V (KNZ.out.trans_no KV.out))
              clear n1
              go_wp2
              all_goals first
                | (go_ret; exact ⟨_, rfl, KA.out.trans_no (KQ.out.trans_no KV.out)⟩)
                | (go_roundg (k - (j + 1))
                   case measure => have := HJ.out; have := HLTJ.out; omega
                   case rel => exact ⟨j + 1, by have := HJ.out; have := HLTJ.out; omega, by go_num, KV.out⟩)
            · obtain rfl : j = k := by omega
              have hgej : ¬ (j : Int) < j := by omega
              have KE := Lib.hid (KQ.out.trans_no kj)
              clear hj kj hltj
              go_wp2
              go_roundg (pvNbN - (j + 1))
              case measure => have := HK.out; have := HLT.out; omega
              case rel => exact ⟨j + 1, by have := HK.out; have := HLT.out; omega, by go_num, KE.out⟩
        · go_wp2_with (first | (refine wpList_load_rt rfl _ rfl w.heap.size rfl cs OK.out.sz (BX.out _ KZ.out) ?_))
          refine (C2.out _ (Kp.refl No Z)).mono ?_
          rintro e z ⟨i2, rfl, kz, _, _⟩
          have K3 := Lib.hid (KZ.out.trans_no kz)
          have KN3 := Lib.hid (Kp.trans_no (Kp.refl No Z) kz)
          clear kz
          by_cases hi2 : i2 < 0
          · clear d0 d1 d2 d3
            go_wp2
            go_ret
            exact ⟨_, rfl, KA.out.trans_no K3.out⟩
          · clear d0 d1 d2 d3
            obtain ⟨d0, d1, d2, d3⟩ := cel4 (NB.out _ KN3.out)
            have f20 := CX.out _ K3.out
            have KQ := Lib.hid K3.out
            have KNZ := Lib.hid KN3.out
            go_wp2
            go_loopg [58] k (fun gk s x => LpI z k gk s x)
            case atStart => exact ⟨0, by omega, rfl, Kp.refl _ _⟩
            case round =>
              clear d0 d1 d2 d3 f20
              obtain ⟨j, hj, rfl, kj⟩ := hrel
              have HJ := Lib.hid hj
              have KJ := Lib.hid kj
              by_cases hltj : j < k
              · have hltji : (j : Int) < k := by omega
                have HLTJ := Lib.hid hltj
                obtain ⟨g', o', b0, b1, b2, b3, e', hg', ⟨e0, e1, e2, e3⟩, m0, m1, m2, m3⟩ := nb_at (i := j) (FF.out.no (KA.out.trans_no (KQ.out.trans_no kj))) (by have := HLT.out; omega)
                cases e'
                have n1 := heap_alloc_new wr (.cells #[.int .u32 (b0 : Int), .int .i64 b1, .string b2, .string b3] 207)
                have KV := Lib.hid (kj.trans_no (Kp.alloc (w := wr) (.cells #[.int .u32 (b0 : Int), .int .i64 b1, .string b2, .string b3] 207)))
                clear hj kj hg' m0 m1 m2 m3
                go_upto_region 13 with fail
                clear e0 e1 e2 e3
                generalize wr.alloc (.cells #[.int .u32 (b0 : Int), .int .i64 b1, .string b2, .string b3] 207) = V at *
                obtain ⟨x0, _⟩ := cel4 n1
                obtain ⟨y0, _⟩ := cel4 (NB.out V (KNZ.out.trans_no KV.out))
                clear n1
                go_wp2
                all_goals first
                  | (go_ret; exact ⟨_, rfl, KA.out.trans_no (KQ.out.trans_no KV.out)⟩)
                  | (go_roundg (k - (j + 1))
                     case measure => have := HJ.out; have := HLTJ.out; omega
                     case rel => exact ⟨j + 1, by have := HJ.out; have := HLTJ.out; omega, by go_num, KV.out⟩)
              · obtain rfl : j = k := by omega
                have hgej : ¬ (j : Int) < j := by omega
                have KE := Lib.hid (KQ.out.trans_no kj)
                clear hj kj hltj
                go_wp2
                go_roundg (pvNbN - (j + 1))
                case measure => have := HK.out; have := HLT.out; omega
                case rel => exact ⟨j + 1, by have := HK.out; have := HLT.out; omega, by go_num, KE.out⟩
      · go_wp2_with (first | (refine wpList_load_rt rfl _ rfl w.heap.size rfl cs OK.out.sz (BX.out _ KZ.out) ?_))
        refine (C1.out _ (Kp.refl No Z)).mono ?_
        rintro e y ⟨i, rfl, ky, _, _⟩
        have KY := Lib.hid ky
        have K2 := Lib.hid (KZ.out.trans_no ky)
        clear d0 d1 d2 d3 ky
        obtain ⟨d0, d1, d2, d3⟩ := cel4 (NB.out y KY.out)
        by_cases hi : i < 0
        · go_wp2
          go_ret
          exact ⟨_, rfl, KA.out.trans_no K2.out⟩
        · rcases str_cases a3 with ⟨b10, b10'⟩ | ⟨b10, b10'⟩
          · clear d0 d1 d2 d3
            obtain ⟨d0, d1, d2, d3⟩ := cel4 (NB.out _ KY.out)
            have f20 := CX.out _ K2.out
            have KQ := Lib.hid K2.out
            have KNZ := Lib.hid KY.out
            go_wp2
            go_loopg [58] k (fun gk s x => LpI y k gk s x)
            case atStart => exact ⟨0, by omega, rfl, Kp.refl _ _⟩
            case round =>
              clear d0 d1 d2 d3 f20
              obtain ⟨j, hj, rfl, kj⟩ := hrel
              have HJ := Lib.hid hj
              have KJ := Lib.hid kj
              by_cases hltj : j < k
              · have hltji : (j : Int) < k := by omega
                have HLTJ := Lib.hid hltj
                obtain ⟨g', o', b0, b1, b2, b3, e', hg', ⟨e0, e1, e2, e3⟩, m0, m1, m2, m3⟩ := nb_at (i := j) (FF.out.no (KA.out.trans_no (KQ.out.trans_no kj))) (by have := HLT.out; omega)
                cases e'
                have n1 := heap_alloc_new wr (.cells #[.int .u32 (b0 : Int), .int .i64 b1, .string b2, .string b3] 207)
                have KV := Lib.hid (kj.trans_no (Kp.alloc (w := wr) (.cells #[.int .u32 (b0 : Int), .int .i64 b1, .string b2, .string b3] 207)))
                clear hj kj hg' m0 m1 m2 m3
                go_upto_region 13 with fail
                clear e0 e1 e2 e3
                generalize wr.alloc (.cells #[.int .u32 (b0 : Int), .int .i64 b1, .string b2, .string b3] 207) = V at *
                obtain ⟨x0, _⟩ := cel4 n1
                obtain ⟨y0, _⟩ := cel4 (NB.out V (KNZ.out.trans_no KV.out))
                clear n1
                go_wp2
                all_goals first
                  | (go_ret; exact ⟨_, rfl, KA.out.trans_no (KQ.out.trans_no KV.out)⟩)
                  | (go_roundg (k - (j + 1))
                     case measure => have := HJ.out; have := HLTJ.out; omega
                     case rel => exact ⟨j + 1, by have := HJ.out; have := HLTJ.out; omega, by go_num, KV.out⟩)
              · obtain rfl : j = k := by omega
                have hgej : ¬ (j : Int) < j := by omega
                have KE := Lib.hid (KQ.out.trans_no kj)
                clear hj kj hltj
                go_wp2
                go_roundg (pvNbN - (j + 1))
                case measure => have := HK.out; have := HLT.out; omega
                case rel => exact ⟨j + 1, by have := HK.out; have := HLT.out; omega, by go_num, KE.out⟩
          · go_wp2_with (first | (refine wpList_load_rt rfl _ rfl w.heap.size rfl cs OK.out.sz (BX.out _ K2.out) ?_))
            refine (C2.out _ KY.out).mono ?_
            rintro e z ⟨i2, rfl, kz, _, _⟩
            have K3 := Lib.hid (K2.out.trans_no kz)
            have KN3 := Lib.hid (Kp.trans_no KY.out kz)
            clear kz
            by_cases hi2 : i2 < 0
            · clear d0 d1 d2 d3
              go_wp2
              go_ret
              exact ⟨_, rfl, KA.out.trans_no K3.out⟩
            · clear d0 d1 d2 d3
              obtain ⟨d0, d1, d2, d3⟩ := cel4 (NB.out _ KN3.out)
              have f20 := CX.out _ K3.out
              have KQ := Lib.hid K3.out
              have KNZ := Lib.hid KN3.out
              go_wp2
              go_loopg [58] k (fun gk s x => LpI z k gk s x)
              case atStart => exact ⟨0, by omega, rfl, Kp.refl _ _⟩
              case round =>
                clear d0 d1 d2 d3 f20
                obtain ⟨j, hj, rfl, kj⟩ := hrel
                have HJ := Lib.hid hj
                have KJ := Lib.hid kj
                by_cases hltj : j < k
                · have hltji : (j : Int) < k := by omega
                  have HLTJ := Lib.hid hltj
                  obtain ⟨g', o', b0, b1, b2, b3, e', hg', ⟨e0, e1, e2, e3⟩, m0, m1, m2, m3⟩ := nb_at (i := j) (FF.out.no (KA.out.trans_no (KQ.out.trans_no kj))) (by have := HLT.out; omega)
                  cases e'
                  have n1 := heap_alloc_new wr (.cells #[.int .u32 (b0 : Int), .int .i64 b1, .string b2, .string b3] 207)
                  have KV := Lib.hid (kj.trans_no (Kp.alloc (w := wr) (.cells #[.int .u32 (b0 : Int), .int .i64 b1, .string b2, .string b3] 207)))
                  clear hj kj hg' m0 m1 m2 m3
                  go_upto_region 13 with fail
                  clear e0 e1 e2 e3
                  generalize wr.alloc (.cells #[.int .u32 (b0 : Int), .int .i64 b1, .string b2, .string b3] 207) = V at *
                  obtain ⟨x0, _⟩ := cel4 n1
                  obtain ⟨y0, _⟩ := cel4 (NB.out V (KNZ.out.trans_no KV.out))
                  clear n1
                  go_wp2
                  all_goals first
                    | (go_ret; exact ⟨_, rfl, KA.out.trans_no (KQ.out.trans_no KV.out)⟩)
                    | (go_roundg (k - (j + 1))
                       case measure => have := HJ.out; have := HLTJ.out; omega
                       case rel => exact ⟨j + 1, by have := HJ.out; have := HLTJ.out; omega, by go_num, KV.out⟩)
                · obtain rfl : j = k := by omega
                  have hgej : ¬ (j : Int) < j := by omega
                  have KE := Lib.hid (KQ.out.trans_no kj)
                  clear hj kj hltj
                  go_wp2
                  go_roundg (pvNbN - (j + 1))
                  case measure => have := HK.out; have := HLT.out; omega
                  case rel => exact ⟨j + 1, by have := HK.out; have := HLT.out; omega, by go_num, KE.out⟩
    · obtain rfl : k = pvNbN := by omega
      have hge : ¬ (k : Int) < k := by omega
      clear hk kp hlt
      go_wp2
      go_ret
      exact ⟨_, rfl, KA.out.trans_no KP.out⟩

end Go.Proofs.YtdgnbbmgcgfibaaGreatDoor

namespace Go.Proofs.YtdgnbbmgcgfibaaGreatDoor
open Go.RowKit

theorem Flat.less {w : World} {ks : List Kd} {ao : Option Addr} {n c k : Nat} (h : Flat w ks (.slice ao n c)) (hk : k ≤ n) : Flat w ks (.slice ao k c) := by
  obtain ⟨ao', len, cap, e, h1, h2, h3⟩ := h
  cases e
  refine ⟨_, _, _, rfl, by omega, h2, ?_⟩
  rcases h3 with h3 | ⟨g, o, e, hg, hc⟩
  · left; omega
  · right; exact ⟨g, o, e, hg, fun i hi => hc i (by omega)⟩

set_option maxRecDepth 100000 in
set_option maxHeartbeats 2000000 in
theorem PIndex_any {w : World} {ao : Option Addr} {len cap : Nat} (h : Flat w pfK (.slice ao len cap)) (hl : len ≤ 9223372036854775807) (a0 : Nat) (a1 : Int) :
    Calls Tryz.prog 127 #[.slice ao len cap, .agg #[.int .u32 (a0 : Int), .int .i64 a1]] w (AnyE w) := by
  have H := Lib.hid h
  have h0 := heap_alloc_new w (.cells #[.int .u32 (a0 : Int), .int .i64 a1] 44)
  have BX : Hid (∀ y, Kp No (w.alloc (.cells #[.int .u32 (a0 : Int), .int .i64 a1] 44)) y → y.heap[w.heap.size]? = some (.cells #[.int .u32 (a0 : Int), .int .i64 a1] 44 (0, 0))) := Lib.hid (fun y k => (k.block _ (heap_lt h0) (fun h => h)).trans h0)
  have KA := Lib.hid (Kp.alloc (w := w) (.cells #[.int .u32 (a0 : Int), .int .i64 a1] 44))
  have hl' : (len : Int) ≤ 9223372036854775807 := by omega
  clear h h0
  go_enter Tryz.func127, Tryz.ntmps127
  go_upto_region 1 with fail
  generalize w.alloc (.cells #[.int .u32 (a0 : Int), .int .i64 a1] 44) = X at *
  go_wp2
  go_loopg [8] len (fun gk s x => LpI X len gk s x)
  case atStart => exact ⟨0, by omega, rfl, Kp.refl _ _⟩
  case round =>
    obtain ⟨k, hk, rfl, kp⟩ := hrel
    have HK := Lib.hid hk
    have KP := Lib.hid kp
    by_cases hlt : k < len
    · have hlti : (k : Int) < len := by omega
      have HLT := Lib.hid hlt
      obtain ⟨g, o, b0, b1, e, hg, ⟨c0, c1⟩, _⟩ := pf_at (H.out.no (KA.out.trans_no kp)) hlt
      subst e
      obtain ⟨d0, d1⟩ := cel2 (BX.out wr kp)
      obtain ⟨r, EQ⟩ := eql_pf a0 a1 b0 b1
      clear hk kp hg
      cases r
      · go_wp2
        go_region
        go_wp2
        go_roundg (len - (k + 1))
        case measure => have := HK.out; have := HLT.out; omega
        case rel => exact ⟨k + 1, by have := HK.out; have := HLT.out; omega, by go_num, KP.out.trans_no Kp.drew⟩
      · go_wp2
        go_region
        go_wp2
        go_ret
        exact ⟨_, rfl, KA.out.trans_no (KP.out.trans_no Kp.drew)⟩
    · obtain rfl : k = len := by omega
      have hge : ¬ (k : Int) < k := by omega
      clear hk kp hlt
      go_wp2
      go_ret
      exact ⟨_, rfl, KA.out.trans_no KP.out⟩
set_option maxHeartbeats 2000000 in
theorem PContains_any {w : World} {ao : Option Addr} {len cap : Nat} (h : Flat w pfK (.slice ao len cap)) (hl : len ≤ 9223372036854775807) (a0 : Nat) (a1 : Int) :
    Calls Tryz.prog 122 #[.slice ao len cap, .agg #[.int .u32 (a0 : Int), .int .i64 a1]] w (AnyB w) := by
  have h0 := heap_alloc_new w (.cells #[.int .u32 (a0 : Int), .int .i64 a1] 44)
  have KA := Lib.hid (Kp.alloc (w := w) (.cells #[.int .u32 (a0 : Int), .int .i64 a1] 44))
  have IX := Lib.hid (PIndex_any (h.no (Kp.alloc (w := w) (.cells #[.int .u32 (a0 : Int), .int .i64 a1] 44))) hl a0 a1)
  clear h
  go_enter Tryz.func122, Tryz.ntmps122
  go_upto_region 1 with fail
  generalize w.alloc (.cells #[.int .u32 (a0 : Int), .int .i64 a1] 44) = X at *
  obtain ⟨d0, d1⟩ := cel2 h0
  go_wp2_with fail
  refine IX.out.mono ?_
  rintro e y ⟨i, rfl, ky⟩
  have KY := Lib.hid (KA.out.trans_no ky)
  clear ky d0 d1 h0 IX
  by_cases hi : 0 ≤ i
  · go_wp2
    go_ret
    exact ⟨_, rfl, KY.out⟩
  · go_wp2
    go_ret
    exact ⟨_, rfl, KY.out⟩
set_option maxRecDepth 1000000 in
set_option maxHeartbeats 8000000 in
theorem checkLinkState_any (cs : Array Value) (w : World) (ok : RtC w cs) : Calls Tryz.prog 51 #[.agg cs] w (AnyE w) := by
  have h0 := heap_alloc_new w (.cells cs 41)
  have BX : Hid (∀ y, Kp No (w.alloc (.cells cs 41)) y → y.heap[w.heap.size]? = some (.cells cs 41 (0, 0))) := Lib.hid (fun y k => (k.block _ (heap_lt h0) (fun h => h)).trans h0)
  have KA := Lib.hid (Kp.alloc (w := w) (.cells cs 41))
  have OK := Lib.hid ok
  clear h0 ok
  obtain ⟨bo, e8⟩ := OK.out.lsOn
  obtain ⟨ad, e9, _, _⟩ := OK.out.lsAd
  obtain ⟨raA, raN, raC, e10, raF, raB1, raB2⟩ := OK.out.lsRa
  obtain ⟨rA, rN, rC, e11, rF, rB1, rB2⟩ := OK.out.lsRe
  have RF := Lib.hid (And.intro rF (And.intro rB1 rB2))
  have RA := Lib.hid (And.intro raF (And.intro raB1 raB2))
  have rB3 : (rN : Int) ≤ 9223372036854775807 := by omega
  have raB3 : (raN : Int) ≤ 9223372036854775807 := by omega
  have hcmi : (raC : Int) ≤ 9223372036854775807 := by omega
  clear rF rB1 rB2 raF raB1 raB2
  go_enter Tryz.func51, Tryz.ntmps51
  go_upto_region 1 with fail
  generalize w.alloc (.cells cs 41) = X at *
  have f8 : X.cell? ⟨w.heap.size, 8, none⟩ = some (.bool bo) := by rw [cell_of_row _ _ _ _ _ _ (BX.out X (Kp.refl _ _))]; exact e8
  have f9 : X.cell? ⟨w.heap.size, 9, none⟩ = some (.int .i64 ad) := by rw [cell_of_row _ _ _ _ _ _ (BX.out X (Kp.refl _ _))]; exact e9
  have f10 : X.cell? ⟨w.heap.size, 10, none⟩ = some (.slice raA raN raC) := by rw [cell_of_row _ _ _ _ _ _ (BX.out X (Kp.refl _ _))]; exact e10
  have f11 : X.cell? ⟨w.heap.size, 11, none⟩ = some (.slice rA rN rC) := by rw [cell_of_row _ _ _ _ _ _ (BX.out X (Kp.refl _ _))]; exact e11
  have n0 := heap_alloc_new X (.cells #[.bool bo, .int .i64 ad, .slice raA raN raC, .slice rA rN rC] 31)
  have KZ := Lib.hid (Kp.alloc (w := X) (.cells #[.bool bo, .int .i64 ad, .slice raA raN raC, .slice rA rN rC] 31))
  clear e8 e9 e10 e11
  go_upto_region 2 with fail
  clear f8 f9 f10 f11
  generalize X.alloc (.cells #[.bool bo, .int .i64 ad, .slice raA raN raC, .slice rA rN rC] 31) = Z at *
  have NB : Hid (∀ y, Kp No Z y → y.heap[X.heap.size]? = some (.cells #[.bool bo, .int .i64 ad, .slice raA raN raC, .slice rA rN rC] 31 (0, 0))) := Lib.hid (fun y q => (q.block _ (heap_lt n0) (fun h => h)).trans n0)
  have OZ := Lib.hid (OK.out.no (KA.out.trans_no KZ.out))
  obtain ⟨d0, d1, d2, d3⟩ := cel4 n0
  clear n0
  have RD := Lib.hid (fun (y : World) (q : Kp No Z y) => checkRedist_any cs rA rN rC 3 0 16777215 2 y (OZ.out.no q) (RF.out.1.no ((KA.out.trans_no KZ.out).trans_no q)) RF.out.2.1 RF.out.2.2)
  have WI := Lib.hid (fun (n a c : Int) (y : World) => within_ok n a c y)
  cases bo
  · go_wp2
    all_goals (go_ret; exact ⟨_, rfl, KA.out.trans_no KZ.out⟩)
  · go_wp2_with fail
    refine (WI.out _ _ _ _).mono ?_
    rintro e y ⟨rfl, rfl⟩
    generalize wiB ad 1 255 = q1
    cases q1
    · go_wp2
      go_ret
      exact ⟨_, rfl, KA.out.trans_no KZ.out⟩
    · by_cases hmx : (4 : Int) < raN
      · go_wp2
        go_ret
        exact ⟨_, rfl, KA.out.trans_no KZ.out⟩
      · go_wp2
        go_loopg [39] raN (fun gk s x => LpI Z raN gk s x)
        case atStart => exact ⟨0, by omega, rfl, Kp.refl _ _⟩
        case round =>
          clear d0 d1 d2 d3
          obtain ⟨k, hk, rfl, kp⟩ := hrel
          have HK := Lib.hid hk
          have KP := Lib.hid kp
          by_cases hlt : k < raN
          · have hlti : (k : Int) < raN := by omega
            have hkc : (k : Int) ≤ raC := by have := RA.out.2; omega
            have hkl : (k : Int) ≤ raN := by omega
            have HLT := Lib.hid hlt
            obtain ⟨g, o, a0, a1, a2, e, hg, ⟨c0, c1, c2⟩, h0, h1, h2⟩ := ar_at (RA.out.1.no (KA.out.trans_no (KZ.out.trans_no kp))) hlt
            subst e
            have n1 := heap_alloc_new wr (.cells #[.int .i64 a0, .int .u32 (a1 : Int), .int .i64 a2] 161)
            have KV := Lib.hid (kp.trans_no (Kp.alloc (w := wr) (.cells #[.int .i64 a0, .int .u32 (a1 : Int), .int .i64 a2] 161)))
            have HA1 := Lib.hid h1
            clear hk kp hg h0 h1 h2
            go_upto_region 13 with fail
            clear c0 c1 c2
            generalize wr.alloc (.cells #[.int .i64 a0, .int .u32 (a1 : Int), .int .i64 a2] 161) = V at *
            have NB2 : Hid (∀ y, Kp No V y → y.heap[wr.heap.size]? = some (.cells #[.int .i64 a0, .int .u32 (a1 : Int), .int .i64 a2] 161 (0, 0))) := Lib.hid (fun y q => (q.block _ (heap_lt n1) (fun h => h)).trans n1)
            obtain ⟨x0, x1, x2⟩ := cel3 n1
            clear n1
            generalize wr = W1 at *
            go_wp2_with fail
            refine (WI.out _ _ _ _).mono ?_
            rintro e y ⟨rfl, rfl⟩
            generalize wiB a0 0 255 = q2
            cases q2
            · go_wp2
              go_ret
              exact ⟨_, rfl, KA.out.trans_no (KZ.out.trans_no KV.out)⟩
            go_wp2_with fail
            refine (Valid_ok a1 a2 _).mono ?_
            rintro e y ⟨rfl, ky⟩
            have KQ := Lib.hid (KV.out.trans_no ky)
            have KQ2 := Lib.hid ky
            generalize pvB a1 a2 = q3
            clear x0 x1 x2 ky
            obtain ⟨x0, x1, x2⟩ := cel3 (NB2.out y KQ2.out)
            obtain ⟨d0, d1, d2, d3⟩ := cel4 (NB.out y KQ.out)
            cases q3
            · go_wp2
              go_ret
              exact ⟨_, rfl, KA.out.trans_no (KZ.out.trans_no KQ.out)⟩
            go_wp2
            go_loopg [59] k (fun gk s x => LpI y k gk s x)
            case atStart => exact ⟨0, by omega, rfl, Kp.refl _ _⟩
            case round =>
              clear d0 d1 d2 d3 x0 x1 x2
              obtain ⟨j, hj, rfl, kj⟩ := hrel
              have HJ := Lib.hid hj
              by_cases hltj : j < k
              · have hltji : (j : Int) < k := by omega
                have HLTJ := Lib.hid hltj
                obtain ⟨g', o', b0, b1, b2, e', hg', ⟨e0, e1, e2⟩, m0, m1, m2⟩ := ar_at (i := j) (RA.out.1.no (KA.out.trans_no (KZ.out.trans_no (KQ.out.trans_no kj)))) (by have := HLT.out; omega)
                cases e'
                have n2 := heap_alloc_new wr (.cells #[.int .i64 b0, .int .u32 (b1 : Int), .int .i64 b2] 161)
                have KV := Lib.hid (kj.trans_no (Kp.alloc (w := wr) (.cells #[.int .i64 b0, .int .u32 (b1 : Int), .int .i64 b2] 161)))
                have HB1 := Lib.hid m1
                clear hj kj hg' m0 m1 m2
                go_upto_region 18 with fail
                clear e0 e1 e2
                generalize wr.alloc (.cells #[.int .i64 b0, .int .u32 (b1 : Int), .int .i64 b2] 161) = V at *
                obtain ⟨z0, z1, z2⟩ := cel3 n2
                obtain ⟨x0, x1, x2⟩ := cel3 (NB2.out V (KQ2.out.trans_no KV.out))
                clear n2
                by_cases hz : b0 = a0
                · have hzz : (b0 == a0) = true := by simp [hz]
                  go_wp2_with fail
                  refine (Overlaps_any b1 b2 a1 a2 HB1.out HA1.out _).mono ?_
                  rintro e u ⟨q3, rfl, ku⟩
                  have KU := Lib.hid (KV.out.trans_no ku)
                  clear ku
                  cases q3
                  · go_wp2
                    go_roundg (k - (j + 1))
                    case measure => have := HJ.out; have := HLTJ.out; omega
                    case rel => exact ⟨j + 1, by have := HJ.out; have := HLTJ.out; omega, by go_num, KU.out⟩
                  · go_wp2
                    go_ret
                    exact ⟨_, rfl, KA.out.trans_no (KZ.out.trans_no (KQ.out.trans_no KU.out))⟩
                · have hzz : (b0 == a0) = false := by simp [hz]
                  go_wp2
                  go_roundg (k - (j + 1))
                  case measure => have := HJ.out; have := HLTJ.out; omega
                  case rel => exact ⟨j + 1, by have := HJ.out; have := HLTJ.out; omega, by go_num, KV.out⟩
              · obtain rfl : j = k := by omega
                have hgej : ¬ (j : Int) < j := by omega
                have KE := Lib.hid (KQ.out.trans_no kj)
                clear hj kj hltj
                go_wp2
                go_roundg (raN - (j + 1))
                case measure => have := HK.out; have := HLT.out; omega
                case rel => exact ⟨j + 1, by have := HK.out; have := HLT.out; omega, by go_num, KE.out⟩
          · obtain rfl : k = raN := by omega
            have hge : ¬ (k : Int) < k := by omega
            clear hk kp hlt
            obtain ⟨d0, d1, d2, d3⟩ := cel4 (NB.out wr KP.out)
            go_wp2_with (first | (refine wpList_load_rt rfl _ rfl w.heap.size rfl cs OK.out.sz (BX.out _ (KZ.out.trans_no KP.out)) ?_))
            refine (RD.out _ KP.out).mono ?_
            rintro e v ⟨n, rfl, kv⟩
            have KV := Lib.hid (KP.out.trans_no kv)
            clear kv
            go_wp2
            go_ret
            exact ⟨_, rfl, KA.out.trans_no (KZ.out.trans_no KV.out)⟩

end Go.Proofs.YtdgnbbmgcgfibaaGreatDoor

namespace Go.Proofs.YtdgnbbmgcgfibaaGreatDoor
open Go.RowKit

theorem cel8 {y : World} {b : Nat} {t : TypeId} {v0 v1 v2 v3 v4 v5 v6 v7 : Value} (h : y.heap[b]? = some (.cells #[v0, v1, v2, v3, v4, v5, v6, v7] t (0, 0))) : y.cell? ⟨b, 0, none⟩ = some v0 ∧ y.cell? ⟨b, 1, none⟩ = some v1 ∧ y.cell? ⟨b, 2, none⟩ = some v2 ∧ y.cell? ⟨b, 3, none⟩ = some v3 ∧ y.cell? ⟨b, 4, none⟩ = some v4 ∧ y.cell? ⟨b, 5, none⟩ = some v5 ∧ y.cell? ⟨b, 6, none⟩ = some v6 ∧ y.cell? ⟨b, 7, none⟩ = some v7 :=
  ⟨by simp [World.cell?, h], by simp [World.cell?, h], by simp [World.cell?, h], by simp [World.cell?, h], by simp [World.cell?, h], by simp [World.cell?, h], by simp [World.cell?, h], by simp [World.cell?, h]⟩
set_option maxRecDepth 1000000 in
set_option maxHeartbeats 16000000 in
theorem checkOrigins_any (on : Bool) (ex it : Int) (nbA : Option Addr) (nbN nbC : Nat) (nwA : Option Addr) (nwN nwC : Nat) (agA : Option Addr) (agN agC : Nat) (coA : Option Addr) (coN coC : Nat) (reA : Option Addr) (reN reC : Nat) (w : World) (hnw : Flat w pfK (.slice nwA nwN nwC)) (hnwb : nwN ≤ nwC ∧ nwC ≤ 9223372036854775807) (hag : Flat w agK (.slice agA agN agC)) (hagb : agN ≤ agC ∧ agC ≤ 9223372036854775807) (hco : Flat w cnK (.slice coA coN coC)) (hcob : coN ≤ coC ∧ coC ≤ 9223372036854775807) : Calls Tryz.prog 90 #[.agg #[.bool on, .int .i64 ex, .int .i64 it, .slice nbA nbN nbC, .slice nwA nwN nwC, .slice agA agN agC, .slice coA coN coC, .slice reA reN reC]] w (AnyE w) := by
  have h0 := heap_alloc_new w (.cells #[.bool on, .int .i64 ex, .int .i64 it, .slice nbA nbN nbC, .slice nwA nwN nwC, .slice agA agN agC, .slice coA coN coC, .slice reA reN reC] 39)
  have BX : Hid (∀ y, Kp No (w.alloc (.cells #[.bool on, .int .i64 ex, .int .i64 it, .slice nbA nbN nbC, .slice nwA nwN nwC, .slice agA agN agC, .slice coA coN coC, .slice reA reN reC] 39)) y → y.heap[w.heap.size]? = some (.cells #[.bool on, .int .i64 ex, .int .i64 it, .slice nbA nbN nbC, .slice nwA nwN nwC, .slice agA agN agC, .slice coA coN coC, .slice reA reN reC] 39 (0, 0))) := Lib.hid (fun y k => (k.block _ (heap_lt h0) (fun h => h)).trans h0)
  have KA := Lib.hid (Kp.alloc (w := w) (.cells #[.bool on, .int .i64 ex, .int .i64 it, .slice nbA nbN nbC, .slice nwA nwN nwC, .slice agA agN agC, .slice coA coN coC, .slice reA reN reC] 39))
  have Fnw := Lib.hid (And.intro hnw hnwb)
  have Fag := Lib.hid (And.intro hag hagb)
  have Fco := Lib.hid (And.intro hco hcob)
  have q1 : (nwN : Int) ≤ 9223372036854775807 := by omega
  have q2 : (agN : Int) ≤ 9223372036854775807 := by omega
  have q3 : (coN : Int) ≤ 9223372036854775807 := by omega
  clear h0 hnw hnwb hag hagb hco hcob
  go_enter Tryz.func90, Tryz.ntmps90
  go_upto_region 1 with fail
  generalize w.alloc (.cells #[.bool on, .int .i64 ex, .int .i64 it, .slice nbA nbN nbC, .slice nwA nwN nwC, .slice agA agN agC, .slice coA coN coC, .slice reA reN reC] 39) = X at *
  obtain ⟨c0, c1, c2, c3, c4, c5, c6, c7⟩ := cel8 (BX.out X (Kp.refl _ _))
  by_cases hmnw : (8 : Int) < nwN
  · go_wp2
    go_ret
    exact ⟨_, rfl, KA.out.trans_no (Kp.refl _ _)⟩
  · go_wp2
    go_loopg [20] nwN (fun gk s x => LpI X nwN gk s x)
    case atStart => exact ⟨0, by omega, rfl, (Kp.refl _ _)⟩
    case round =>
      clear c0 c1 c2 c3 c4 c5 c6 c7
      obtain ⟨k, hk, rfl, kp⟩ := hrel
      have HK := Lib.hid hk
      have KP := Lib.hid kp
      by_cases hlt : k < nwN
      · have hlti : (k : Int) < nwN := by omega
        have hkc : (k : Int) ≤ nwC := by have := Fnw.out.2; omega
        have hkl : (k : Int) ≤ nwN := by omega
        have hkcm : (nwC : Int) ≤ 9223372036854775807 := by have := Fnw.out.2; omega
        have HLT := Lib.hid hlt
        obtain ⟨g, o, a0, a1, e, hg, ⟨e0, e1⟩, h0, h1⟩ := pf_at (Fnw.out.1.no (KA.out.trans_no kp)) hlt
        subst e
        have n1 := heap_alloc_new wr (.cells #[.int .u32 (a0 : Int), .int .i64 a1] 44)
        have KV := Lib.hid (kp.trans_no (Kp.alloc (w := wr) (.cells #[.int .u32 (a0 : Int), .int .i64 a1] 44)))
        clear hk kp hg h0 h1
        go_upto_region 6 with fail
        clear e0 e1
        generalize wr.alloc (.cells #[.int .u32 (a0 : Int), .int .i64 a1] 44) = V at *
        have NB2 : Hid (∀ y, Kp No V y → y.heap[wr.heap.size]? = some (.cells #[.int .u32 (a0 : Int), .int .i64 a1] 44 (0, 0))) := Lib.hid (fun y q => (q.block _ (heap_lt n1) (fun h => h)).trans n1)
        obtain ⟨x0, x1⟩ := cel2 n1
        clear n1
        generalize wr = W1 at *
        go_wp2_with fail
        refine (Valid_ok a0 a1 _).mono ?_
        rintro e y ⟨rfl, ky⟩
        have KVy := Lib.hid ky
        have KQ := Lib.hid (KV.out.trans_no ky)
        clear x0 x1 ky
        obtain ⟨x0, x1⟩ := cel2 (NB2.out y KVy.out)
        obtain ⟨c0, c1, c2, c3, c4, c5, c6, c7⟩ := cel8 (BX.out y KQ.out)
        generalize pvB a0 a1 = q
        cases q
        · go_wp2
          go_ret
          exact ⟨_, rfl, KA.out.trans_no KQ.out⟩
        have PC := Lib.hid (fun (u : World) (p : Kp No y u) => PContains_any ((Fnw.out.1.no (KA.out.trans_no (KQ.out.trans_no p))).less (k := k) (by omega)) (by omega) a0 a1)
        have S0 : Hid ((fun u => u.cell? ⟨w.heap.size, 4, none⟩ = some (.slice (some ⟨g, o, none⟩) nwN nwC) ∧ u.cell? ⟨W1.heap.size, 0, none⟩ = some (.int .u32 (a0 : Int)) ∧ u.cell? ⟨W1.heap.size, 1, none⟩ = some (.int .i64 a1)) y.drew) := Lib.hid ⟨c4, x0, x1⟩
        go_upto_region 8 with fail
        go_region_held3 (fun u => u.cell? ⟨w.heap.size, 4, none⟩ = some (.slice (some ⟨g, o, none⟩) nwN nwC) ∧ u.cell? ⟨W1.heap.size, 0, none⟩ = some (.int .u32 (a0 : Int)) ∧ u.cell? ⟨W1.heap.size, 1, none⟩ = some (.int .i64 a1)) (first | exact S0.out | trivial)
          (first | (go_at_call 122; (with_reducible refine (PC.out _ Kp.drew).mono ?_); rintro e u ⟨q2, rfl, ku⟩; have KU := Lib.hid (KQ.out.trans_no (Kp.drew.trans_no ku)); have S0 : Hid ((fun u => u.cell? ⟨w.heap.size, 4, none⟩ = some (.slice (some ⟨g, o, none⟩) nwN nwC) ∧ u.cell? ⟨W1.heap.size, 0, none⟩ = some (.int .u32 (a0 : Int)) ∧ u.cell? ⟨W1.heap.size, 1, none⟩ = some (.int .i64 a1)) u) := Lib.hid (by
            obtain ⟨z0, z1⟩ := cel2 (NB2.out u (KVy.out.trans_no (Kp.drew.trans_no ku)))
            obtain ⟨_, _, _, _, z4, _⟩ := cel8 (BX.out u (KQ.out.trans_no (Kp.drew.trans_no ku)))
            exact ⟨z4, z0, z1⟩); clear ku))
        cases q2
        · go_wp2
          (go_roundg (nwN - (k + 1)); (case measure => (have := HK.out; have := HLT.out; omega)); (case rel => exact ⟨k + 1, by have := HK.out; have := HLT.out; omega, by go_num, KU.out⟩))
        · go_wp2
          go_ret
          exact ⟨_, rfl, KA.out.trans_no KU.out⟩
      · obtain rfl : k = nwN := by omega
        have hge : ¬ (k : Int) < k := by omega
        clear hk kp hlt
        obtain ⟨c0, c1, c2, c3, c4, c5, c6, c7⟩ := cel8 (BX.out _ KP.out)
        generalize wr = W2 at *
        by_cases hmag : (8 : Int) < agN
        · go_wp2
          go_ret
          exact ⟨_, rfl, KA.out.trans_no KP.out⟩
        · go_wp2
          go_loopg [42] agN (fun gk s x => LpI X agN gk s x)
          case atStart => exact ⟨0, by omega, rfl, KP.out⟩
          case round =>
            clear c0 c1 c2 c3 c4 c5 c6 c7
            obtain ⟨k, hk, rfl, kp⟩ := hrel
            have HK := Lib.hid hk
            have KP := Lib.hid kp
            by_cases hlt : k < agN
            · have hlti : (k : Int) < agN := by omega
              have hkc : (k : Int) ≤ agC := by have := Fag.out.2; omega
              have hkl : (k : Int) ≤ agN := by omega
              have hkcm : (agC : Int) ≤ 9223372036854775807 := by have := Fag.out.2; omega
              have HLT := Lib.hid hlt
              obtain ⟨g, o, a0, a1, a2, e, hg, ⟨e0, e1, e2⟩, h0, h1⟩ := ag_at (Fag.out.1.no (KA.out.trans_no kp)) hlt
              subst e
              have n1 := heap_alloc_new wr (.cells #[.int .u32 (a0 : Int), .int .i64 a1, .bool a2] 210)
              have KV := Lib.hid (kp.trans_no (Kp.alloc (w := wr) (.cells #[.int .u32 (a0 : Int), .int .i64 a1, .bool a2] 210)))
              clear hk kp hg h0 h1
              go_upto_region 16 with fail
              clear e0 e1 e2
              generalize wr.alloc (.cells #[.int .u32 (a0 : Int), .int .i64 a1, .bool a2] 210) = V at *
              have NB2 : Hid (∀ y, Kp No V y → y.heap[wr.heap.size]? = some (.cells #[.int .u32 (a0 : Int), .int .i64 a1, .bool a2] 210 (0, 0))) := Lib.hid (fun y q => (q.block _ (heap_lt n1) (fun h => h)).trans n1)
              obtain ⟨x0, x1, x2⟩ := cel3 n1
              clear n1
              generalize wr = W1 at *
              go_wp2_with fail
              refine (Valid_ok a0 a1 _).mono ?_
              rintro e y ⟨rfl, ky⟩
              have KVy := Lib.hid ky
              have KQ := Lib.hid (KV.out.trans_no ky)
              clear x0 x1 x2 ky
              obtain ⟨x0, x1, x2⟩ := cel3 (NB2.out y KVy.out)
              obtain ⟨c0, c1, c2, c3, c4, c5, c6, c7⟩ := cel8 (BX.out y KQ.out)
              generalize pvB a0 a1 = q
              cases q
              · go_wp2
                go_ret
                exact ⟨_, rfl, KA.out.trans_no KQ.out⟩
              go_wp2
              go_loopg [56] k (fun gk s x => LpI y k gk s x)
              case atStart => exact ⟨0, by omega, rfl, Kp.refl _ _⟩
              case round =>
                clear c0 c1 c2 c3 c4 c5 c6 c7 x0 x1 x2
                obtain ⟨j, hj, rfl, kj⟩ := hrel
                have HJ := Lib.hid hj
                by_cases hltj : j < k
                · have hltji : (j : Int) < k := by omega
                  have HLTJ := Lib.hid hltj
                  obtain ⟨g', o', b0, b1, b2, e', hg', ⟨e0, e1, e2⟩, m0, m1⟩ := ag_at (i := j) (Fag.out.1.no (KA.out.trans_no (KQ.out.trans_no kj))) (by have := HLT.out; omega)
                  cases e'
                  have n2 := heap_alloc_new wr (.cells #[.int .u32 (b0 : Int), .int .i64 b1, .bool b2] 210)
                  have KU := Lib.hid (kj.trans_no (Kp.alloc (w := wr) (.cells #[.int .u32 (b0 : Int), .int .i64 b1, .bool b2] 210)))
                  clear hj kj hg' m0 m1
                  go_upto_region 21 with fail
                  clear e0 e1 e2
                  generalize wr.alloc (.cells #[.int .u32 (b0 : Int), .int .i64 b1, .bool b2] 210) = U at *
                  obtain ⟨z0, z1, z2⟩ := cel3 n2
                  obtain ⟨x0, x1, x2⟩ := cel3 (NB2.out U (KVy.out.trans_no KU.out))
                  clear n2
                  obtain ⟨r, EQ⟩ := eql_pf b0 b1 a0 a1
                  cases r
                  · go_wp2
                    (go_roundg (k - (j + 1)); (case measure => (have := HJ.out; have := HLTJ.out; omega)); (case rel => exact ⟨j + 1, by have := HJ.out; have := HLTJ.out; omega, by go_num, KU.out⟩))
                  · go_wp2
                    go_ret
                    exact ⟨_, rfl, KA.out.trans_no (KQ.out.trans_no KU.out)⟩
                · obtain rfl : j = k := by omega
                  have hgej : ¬ (j : Int) < j := by omega
                  have KE := Lib.hid (KQ.out.trans_no kj)
                  clear hj kj hltj
                  go_wp2
                  (go_roundg (agN - (j + 1)); (case measure => (have := HK.out; have := HLT.out; omega)); (case rel => exact ⟨j + 1, by have := HK.out; have := HLT.out; omega, by go_num, KE.out⟩))
            · obtain rfl : k = agN := by omega
              have hge : ¬ (k : Int) < k := by omega
              clear hk kp hlt
              obtain ⟨c0, c1, c2, c3, c4, c5, c6, c7⟩ := cel8 (BX.out _ KP.out)
              generalize wr = W3 at *
              by_cases hmco : (8 : Int) < coN
              · go_wp2
                go_ret
                exact ⟨_, rfl, KA.out.trans_no KP.out⟩
              · go_wp2
                go_loopg [74] coN (fun gk s x => LpI X coN gk s x)
                case atStart => exact ⟨0, by omega, rfl, KP.out⟩
                case round =>
                  clear c0 c1 c2 c3 c4 c5 c6 c7
                  obtain ⟨k, hk, rfl, kp⟩ := hrel
                  have HK := Lib.hid hk
                  have KP := Lib.hid kp
                  by_cases hlt : k < coN
                  · have hlti : (k : Int) < coN := by omega
                    have hkc : (k : Int) ≤ coC := by have := Fco.out.2; omega
                    have hkl : (k : Int) ≤ coN := by omega
                    have hkcm : (coC : Int) ≤ 9223372036854775807 := by have := Fco.out.2; omega
                    have HLT := Lib.hid hlt
                    obtain ⟨g, o, a0, a1, a2, a3, a4, e, hg, ⟨e0, e1, e2, e3, e4⟩, h0, h1, h2, h3⟩ := cn_at (Fco.out.1.no (KA.out.trans_no kp)) hlt
                    subst e
                    have n1 := heap_alloc_new wr (.cells #[.int .u32 (a0 : Int), .int .i64 a1, .int .u32 (a2 : Int), .int .i64 a3, .bool a4] 212)
                    have KV := Lib.hid (kp.trans_no (Kp.alloc (w := wr) (.cells #[.int .u32 (a0 : Int), .int .i64 a1, .int .u32 (a2 : Int), .int .i64 a3, .bool a4] 212)))
                    clear hk kp hg h0 h1 h2 h3
                    go_upto_region 30 with fail
                    clear e0 e1 e2 e3 e4
                    generalize wr.alloc (.cells #[.int .u32 (a0 : Int), .int .i64 a1, .int .u32 (a2 : Int), .int .i64 a3, .bool a4] 212) = V at *
                    have NB2 : Hid (∀ y, Kp No V y → y.heap[wr.heap.size]? = some (.cells #[.int .u32 (a0 : Int), .int .i64 a1, .int .u32 (a2 : Int), .int .i64 a3, .bool a4] 212 (0, 0))) := Lib.hid (fun y q => (q.block _ (heap_lt n1) (fun h => h)).trans n1)
                    obtain ⟨x0, x1, x2, x3, x4⟩ := cel5 n1
                    clear n1
                    generalize wr = W1 at *
                    go_wp2_with fail
                    refine (Valid_ok a0 a1 _).mono ?_
                    rintro e y ⟨rfl, ky⟩
                    have KVy := Lib.hid ky
                    have KQ := Lib.hid (KV.out.trans_no ky)
                    clear x0 x1 x2 x3 x4 ky
                    obtain ⟨x0, x1, x2, x3, x4⟩ := cel5 (NB2.out y KVy.out)
                    obtain ⟨c0, c1, c2, c3, c4, c5, c6, c7⟩ := cel8 (BX.out y KQ.out)
                    generalize pvB a0 a1 = q
                    cases q
                    · go_wp2
                      go_ret
                      exact ⟨_, rfl, KA.out.trans_no KQ.out⟩
                    go_wp2_with fail
                    refine (Valid_ok a2 a3 _).mono ?_
                    rintro e y2 ⟨rfl, ky⟩
                    have KVy2 := Lib.hid (KVy.out.trans_no ky)
                    have KQ2 := Lib.hid (KQ.out.trans_no ky)
                    clear x0 x1 x2 x3 x4 c0 c1 c2 c3 c4 c5 c6 c7 ky KVy
                    obtain ⟨x0, x1, x2, x3, x4⟩ := cel5 (NB2.out y2 KVy2.out)
                    obtain ⟨c0, c1, c2, c3, c4, c5, c6, c7⟩ := cel8 (BX.out y2 KQ2.out)
                    have KVy := Lib.hid KVy2.out
                    generalize pvB a2 a3 = q4
                    cases q4
                    · go_wp2
                      go_ret
                      exact ⟨_, rfl, KA.out.trans_no KQ2.out⟩
                    obtain ⟨r0, EQ0⟩ := eql_pf a0 a1 a2 a3
                    cases r0
                    · go_wp2
                      go_loopg [99] k (fun gk s x => LpI y2 k gk s x)
                      case atStart => exact ⟨0, by omega, rfl, Kp.refl _ _⟩
                      case round =>
                        clear c0 c1 c2 c3 c4 c5 c6 c7 x0 x1 x2 x3 x4
                        obtain ⟨j, hj, rfl, kj⟩ := hrel
                        have HJ := Lib.hid hj
                        by_cases hltj : j < k
                        · have hltji : (j : Int) < k := by omega
                          have HLTJ := Lib.hid hltj
                          obtain ⟨g', o', b0, b1, b2, b3, b4, e', hg', ⟨e0, e1, e2, e3, e4⟩, m0, m1, m2, m3⟩ := cn_at (i := j) (Fco.out.1.no (KA.out.trans_no (KQ2.out.trans_no kj))) (by have := HLT.out; omega)
                          cases e'
                          have n2 := heap_alloc_new wr (.cells #[.int .u32 (b0 : Int), .int .i64 b1, .int .u32 (b2 : Int), .int .i64 b3, .bool b4] 212)
                          have KU := Lib.hid (kj.trans_no (Kp.alloc (w := wr) (.cells #[.int .u32 (b0 : Int), .int .i64 b1, .int .u32 (b2 : Int), .int .i64 b3, .bool b4] 212)))
                          clear hj kj hg' m0 m1 m2 m3
                          go_upto_region 37 with fail
                          clear e0 e1 e2 e3 e4
                          generalize wr.alloc (.cells #[.int .u32 (b0 : Int), .int .i64 b1, .int .u32 (b2 : Int), .int .i64 b3, .bool b4] 212) = U at *
                          obtain ⟨z0, z1, z2, z3, z4⟩ := cel5 n2
                          obtain ⟨x0, x1, x2, x3, x4⟩ := cel5 (NB2.out U (KVy.out.trans_no KU.out))
                          clear n2
                          obtain ⟨r, EQ⟩ := eql_pf b0 b1 a0 a1
                          cases r
                          · go_wp2
                            (go_roundg (k - (j + 1)); (case measure => (have := HJ.out; have := HLTJ.out; omega)); (case rel => exact ⟨j + 1, by have := HJ.out; have := HLTJ.out; omega, by go_num, KU.out⟩))
                          · go_wp2
                            go_ret
                            exact ⟨_, rfl, KA.out.trans_no (KQ2.out.trans_no KU.out)⟩
                        · obtain rfl : j = k := by omega
                          have hgej : ¬ (j : Int) < j := by omega
                          have KE := Lib.hid (KQ2.out.trans_no kj)
                          clear hj kj hltj
                          go_wp2
                          (go_roundg (coN - (j + 1)); (case measure => (have := HK.out; have := HLT.out; omega)); (case rel => exact ⟨j + 1, by have := HK.out; have := HLT.out; omega, by go_num, KE.out⟩))
                    · go_wp2
                      go_ret
                      exact ⟨_, rfl, KA.out.trans_no KQ2.out⟩
                  · obtain rfl : k = coN := by omega
                    have hge : ¬ (k : Int) < k := by omega
                    clear hk kp hlt
                    go_wp2
                    go_ret
                    exact ⟨_, rfl, KA.out.trans_no KP.out⟩
set_option maxRecDepth 1000000 in
set_option maxHeartbeats 16000000 in
theorem checkPathVector_any (cs : Array Value) (w : World) (ok : RtC w cs) : Calls Tryz.prog 53 #[.agg cs] w (AnyE w) := by
  have h0 := heap_alloc_new w (.cells cs 41)
  have BX : Hid (∀ y, Kp No (w.alloc (.cells cs 41)) y → y.heap[w.heap.size]? = some (.cells cs 41 (0, 0))) := Lib.hid (fun y k => (k.block _ (heap_lt h0) (fun h => h)).trans h0)
  have KA := Lib.hid (Kp.alloc (w := w) (.cells cs 41))
  have OK := Lib.hid ok
  clear h0 ok
  obtain ⟨asn, e1, _, _⟩ := OK.out.asn
  obtain ⟨on, e17⟩ := OK.out.pvOn
  obtain ⟨ex, e18, _, _⟩ := OK.out.pvEx
  obtain ⟨it, e19, _, _⟩ := OK.out.pvIn
  obtain ⟨nbA, nbN, nbC, e20, nbF, nbB⟩ := OK.out.pvNb
  have Hnb := Lib.hid (And.intro nbF nbB)
  have qnb : (nbN : Int) ≤ 9223372036854775807 := by have := nbB; omega
  clear nbF nbB
  obtain ⟨nwA, nwN, nwC, e21, nwF, nwB⟩ := OK.out.pvNw
  have Hnw := Lib.hid (And.intro nwF nwB)
  have qnw : (nwN : Int) ≤ 9223372036854775807 := by have := nwB; omega
  clear nwF nwB
  obtain ⟨agA, agN, agC, e22, agF, agB⟩ := OK.out.pvAg
  have Hag := Lib.hid (And.intro agF agB)
  have qag : (agN : Int) ≤ 9223372036854775807 := by have := agB; omega
  clear agF agB
  obtain ⟨coA, coN, coC, e23, coF, coB⟩ := OK.out.pvCo
  have Hco := Lib.hid (And.intro coF coB)
  have qco : (coN : Int) ≤ 9223372036854775807 := by have := coB; omega
  clear coF coB
  obtain ⟨reA, reN, reC, e24, reF, reB⟩ := OK.out.pvRe
  have Hre := Lib.hid (And.intro reF reB)
  have qre : (reN : Int) ≤ 9223372036854775807 := by have := reB; omega
  clear reF reB
  have HE1 := Lib.hid e1
  clear e1
  go_enter Tryz.func53, Tryz.ntmps53
  go_upto_region 1 with fail
  generalize w.alloc (.cells cs 41) = X at *
  have f17 : X.cell? ⟨w.heap.size, 17, none⟩ = some (.bool on) := by rw [cell_of_row _ _ _ _ _ _ (BX.out X (Kp.refl _ _))]; exact e17
  have f18 : X.cell? ⟨w.heap.size, 18, none⟩ = some (.int .i64 ex) := by rw [cell_of_row _ _ _ _ _ _ (BX.out X (Kp.refl _ _))]; exact e18
  have f19 : X.cell? ⟨w.heap.size, 19, none⟩ = some (.int .i64 it) := by rw [cell_of_row _ _ _ _ _ _ (BX.out X (Kp.refl _ _))]; exact e19
  have f20 : X.cell? ⟨w.heap.size, 20, none⟩ = some (.slice nbA nbN nbC) := by rw [cell_of_row _ _ _ _ _ _ (BX.out X (Kp.refl _ _))]; exact e20
  have f21 : X.cell? ⟨w.heap.size, 21, none⟩ = some (.slice nwA nwN nwC) := by rw [cell_of_row _ _ _ _ _ _ (BX.out X (Kp.refl _ _))]; exact e21
  have f22 : X.cell? ⟨w.heap.size, 22, none⟩ = some (.slice agA agN agC) := by rw [cell_of_row _ _ _ _ _ _ (BX.out X (Kp.refl _ _))]; exact e22
  have f23 : X.cell? ⟨w.heap.size, 23, none⟩ = some (.slice coA coN coC) := by rw [cell_of_row _ _ _ _ _ _ (BX.out X (Kp.refl _ _))]; exact e23
  have f24 : X.cell? ⟨w.heap.size, 24, none⟩ = some (.slice reA reN reC) := by rw [cell_of_row _ _ _ _ _ _ (BX.out X (Kp.refl _ _))]; exact e24
  have n0 := heap_alloc_new X (.cells #[.bool on, .int .i64 ex, .int .i64 it, .slice nbA nbN nbC, .slice nwA nwN nwC, .slice agA agN agC, .slice coA coN coC, .slice reA reN reC] 39)
  have KZ := Lib.hid (Kp.alloc (w := X) (.cells #[.bool on, .int .i64 ex, .int .i64 it, .slice nbA nbN nbC, .slice nwA nwN nwC, .slice agA agN agC, .slice coA coN coC, .slice reA reN reC] 39))
  clear e17 e18 e19 e20 e21 e22 e23 e24
  go_upto_region 2 with fail
  clear f17 f18 f19 f20 f21 f22 f23 f24
  generalize X.alloc (.cells #[.bool on, .int .i64 ex, .int .i64 it, .slice nbA nbN nbC, .slice nwA nwN nwC, .slice agA agN agC, .slice coA coN coC, .slice reA reN reC] 39) = Z at *
  have NB : Hid (∀ y, Kp No Z y → y.heap[X.heap.size]? = some (.cells #[.bool on, .int .i64 ex, .int .i64 it, .slice nbA nbN nbC, .slice nwA nwN nwC, .slice agA agN agC, .slice coA coN coC, .slice reA reN reC] 39 (0, 0))) := Lib.hid (fun y q => (q.block _ (heap_lt n0) (fun h => h)).trans n0)
  have OZ := Lib.hid (OK.out.no (KA.out.trans_no KZ.out))
  obtain ⟨c0, c1, c2, c3, c4, c5, c6, c7⟩ := cel8 n0
  clear n0
  have f1 : Z.cell? ⟨w.heap.size, 1, none⟩ = some (.int .i64 asn) := by rw [cell_of_row _ _ _ _ _ _ (BX.out Z KZ.out)]; exact HE1.out
  have WI := Lib.hid (fun (n a c : Int) (y : World) => within_ok n a c y)
  have CN := Lib.hid (fun (y : World) (q : Kp No Z y) => checkNeighbors_any cs y (OZ.out.no q))
  have CO := Lib.hid (fun (y : World) (q : Kp No Z y) => checkOrigins_any on ex it nbA nbN nbC nwA nwN nwC agA agN agC coA coN coC reA reN reC y (Hnw.out.1.no ((KA.out.trans_no KZ.out).trans_no q)) Hnw.out.2 (Hag.out.1.no ((KA.out.trans_no KZ.out).trans_no q)) Hag.out.2 (Hco.out.1.no ((KA.out.trans_no KZ.out).trans_no q)) Hco.out.2)
  have RD := Lib.hid (fun (y : World) (q : Kp No Z y) => checkRedist_any cs reA reN reC 5 0 16777215 0 y (OZ.out.no q) (Hre.out.1.no ((KA.out.trans_no KZ.out).trans_no q)) Hre.out.2.1 Hre.out.2.2)
  cases on
  · go_wp2
    all_goals (go_ret; exact ⟨_, rfl, KA.out.trans_no KZ.out⟩)
  by_cases h1 : asn = 0
  · have h1b : (asn == 0) = true := by simp [h1]
    go_wp2
    go_ret
    exact ⟨_, rfl, KA.out.trans_no KZ.out⟩
  have h1b : (asn == 0) = false := by simp [h1]
  go_wp2_with fail
  refine (WI.out _ _ _ _).mono ?_
  rintro e u ⟨rfl, rfl⟩
  generalize wiB ex 1 255 = rex
  cases rex
  · go_wp2
    go_ret
    exact ⟨_, rfl, KA.out.trans_no KZ.out⟩
  go_wp2_with fail
  refine (WI.out _ _ _ _).mono ?_
  rintro e u ⟨rfl, rfl⟩
  generalize wiB it 1 255 = rit
  cases rit
  · go_wp2
    go_ret
    exact ⟨_, rfl, KA.out.trans_no KZ.out⟩
  go_wp2_with (first | (refine wpList_load_rt rfl _ rfl w.heap.size rfl cs OK.out.sz (BX.out _ KZ.out) ?_))
  refine (CN.out _ (Kp.refl No Z)).mono ?_
  rintro e y ⟨n1, rfl, ky⟩
  have KY := Lib.hid ky
  clear ky
  by_cases hn1 : n1 = 0
  · have hn1b : (n1 != 0) = false := by simp [hn1]
    clear c0 c1 c2 c3 c4 c5 c6 c7 f1
    obtain ⟨c0, c1, c2, c3, c4, c5, c6, c7⟩ := cel8 (NB.out y KY.out)
    go_wp2_with fail
    refine (CO.out _ KY.out).mono ?_
    rintro e z ⟨n2, rfl, kz⟩
    have KY2 := Lib.hid (KY.out.trans_no kz)
    clear kz
    by_cases hn2 : n2 = 0
    · have hn2b : (n2 != 0) = false := by simp [hn2]
      clear c0 c1 c2 c3 c4 c5 c6 c7
      obtain ⟨c0, c1, c2, c3, c4, c5, c6, c7⟩ := cel8 (NB.out z KY2.out)
      go_wp2_with (first | (refine wpList_load_rt rfl _ rfl w.heap.size rfl cs OK.out.sz (BX.out _ (KZ.out.trans_no KY2.out)) ?_))
      refine (RD.out _ KY2.out).mono ?_
      rintro e v ⟨n3, rfl, kv⟩
      have KV := Lib.hid (KY2.out.trans_no kv)
      clear kv
      go_wp2
      go_ret
      exact ⟨_, rfl, KA.out.trans_no (KZ.out.trans_no KV.out)⟩
    · have hn2b : (n2 != 0) = true := by simp [hn2]
      go_wp2
      go_ret
      exact ⟨_, rfl, KA.out.trans_no (KZ.out.trans_no KY2.out)⟩
  · have hn1b : (n1 != 0) = true := by simp [hn1]
    go_wp2
    go_ret
    exact ⟨_, rfl, KA.out.trans_no (KZ.out.trans_no KY.out)⟩

end Go.Proofs.YtdgnbbmgcgfibaaGreatDoor
