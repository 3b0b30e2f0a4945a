/-
  Walks: the law TranslateRefuses.
-/
import Derived.Test.YteflklmijepboaaGreatDoorKb
import Derived.Test.YteflklmijepboaaGreatDoorKr
namespace Go.Proofs.YteflklmijepboaaGreatDoor
open Go.RowKit

theorem valid_neg {M : Mgr} {x : Int} (h : x < 0) : M.valid x = false := by
  unfold Mgr.valid
  simp
  omega
set_option maxRecDepth 1000000 in
set_option maxHeartbeats 16000000 in
theorem TranslateRefuses_walk (cs : Array Value) (n x : Nat) (hn : n < 4294967296) (hx : x < 65536) {w : World} (ok : RtC w cs) (g : Gl w) :
    Calls Tryz.prog 3 #[.agg cs, .int .u32 (n : Int), .int .u16 (x : Int)] w fun e w' => e = .returned (.bool true) ∧ Kp No w w' := by
  have h0 := heap_alloc_new w (.cells cs 41)
  have k0 : Kp No w (w.alloc (.cells cs 41)) := Kp.alloc _
  have hs0 : (w.alloc (.cells cs 41)).heap.size = w.heap.size + 1 := by simp
  have AW := Lib.hid (tawake_ok (g.no k0))
  go_enter Tryz.func3, Tryz.ntmps3
  go_upto_region 1 with fail
  generalize w.alloc (.cells cs 41) = X at *
  have CSZ := Lib.hid ok.sz
  have OK0 := Lib.hid ok
  have G0 := Lib.hid g
  have K0 := Lib.hid k0
  have B0 := Lib.hid h0
  have S0 := Lib.hid hs0
  clear h0 k0 hs0 ok g
  go_wp2_with fail
  refine AW.out.mono ?_
  rintro e w1 ⟨rfl, k1⟩
  have K1 := Lib.hid (K0.out.trans_no k1)
  have B1 := Lib.hid ((k1.block _ (heap_lt B0.out) (fun h => h)).trans B0.out)
  clear k1 AW K0
  have OK1 := Lib.hid (OK0.out.no K1.out)
  have SM := Lib.hid (Small_any cs w1 OK1.out)
  go_wp2_with (first | (refine wpList_load_rt rfl _ rfl w.heap.size rfl cs CSZ.out B1.out ?_))
  refine SM.out.mono ?_
  rintro e w2 ⟨b, rfl, k2, hb⟩
  have HB := Lib.hid hb
  have K2 := Lib.hid k2
  have B2 := Lib.hid ((k2.block _ (heap_lt B1.out) (fun h => h)).trans B1.out)
  clear hb k2 SM
  cases b
  · go_wp2_with fail
    go_ret
    exact ⟨rfl, K1.out.trans_no K2.out⟩
  obtain ⟨ts, acs, hts, hok, hle, hro, hat⟩ := router_lists OK1.out (HB.out rfl)
  have HTS := Lib.hid (And.intro hts hok)
  have HAT := Lib.hid hat
  have HLE := Lib.hid hle
  have NEW := Lib.hid (HNew_ok w2)
  clear hts hok hle hro hat
  go_wp2_with fail
  refine NEW.out.mono ?_
  rintro e w3 ⟨p, L, rfl, RR, k3, o3⟩
  have KW := Lib.hid (K1.out.trans_no K2.out)
  have H0 := Lib.hid (hf_new G0.out KW.out RR k3 o3)
  have LO : Hid (∀ z, L.at p z → w2.heap.size ≤ z) := Lib.hid o3
  have B3 := Lib.hid ((k3.block _ (heap_lt B2.out) (fun h => h)).trans B2.out)
  have NAT := Lib.hid (HAT.out w3 p L (K2.out.trans_no k3) (fun k hk h => by have := o3 k h; have := K2.out.size; omega)).1
  have K3 := Lib.hid (KW.out.trans_no k3)
  have CD := Lib.hid (Dest_ok cs CSZ.out ts (acG acs) HTS.out.1 HTS.out.2 (fun t _ => acG_le HLE.out) H0.out.rep H0.out.qk H0.out.gl H0.out.off NAT.out (by omega))
  clear RR k3 o3 NEW
  go_wp2_with (first | (refine wpList_load_rt rfl _ rfl w.heap.size rfl cs CSZ.out B3.out ?_))
  refine CD.out.mono ?_
  intro e w4 o
  obtain ⟨d, M4, L4, rfl, nn, f4⟩ := H0.out.step o
  have H4 := Lib.hid f4
  have CN := Lib.hid (Range_ok 3 (by omega) true x x (by omega) (by omega) f4.rep f4.qk f4.gl f4.off (by omega))
  clear o f4 nn CD
  have hni : (n : Int) < 4294967296 := by omega
  have hxi : (x : Int) < 65536 := by omega
  go_upto_region 8 with fail
  go_wp2_with fail
  refine CN.out.mono ?_
  intro e w5 o
  obtain ⟨nx, M5, L5, rfl, nn, f5⟩ := H4.out.step o
  have H5 := Lib.hid f5
  have q5 := f5.qk
  have SL : Hid ((M5.n ≤ 256) ∧ ∀ f : Int, (∀ v, v ∈ M5.supM f → v < 256) ∧ (M5.supM f).length ≤ 256) := Lib.hid ⟨by rw [q5.nn]; omega, fun f => ⟨fun v hv => by have := supM_lt v hv; rw [q5.nn] at this; omega, by have := supM_len (M := M5) (f := f); rw [q5.nn] at this; omega⟩⟩
  have BV : Hid (M5.valid (-1 - (n : Int)) = false) := Lib.hid (valid_neg (by omega))
  have BC : Hid (curB M5 (-1 - (n : Int)) = false) := Lib.hid (curB_bad BV.out)
  have NC : Hid (curB M5 nx = false) := Lib.hid (curB_port f5.qk (List.Mem.head _) hx)
  have KF := Lib.hid (f5.kpNo K3.out (fun z hz => by have := LO.out z hz; have := KW.out.size; omega))
  have IB := Lib.hid (fun (y : World) (R : Rep y p M5 L5) (r f : Int) (h : M5.valid r = false ∨ curB M5 f = false) => Image_bad r f R SL.out.1 (SL.out.2 f).1 (SL.out.2 f).2 h)
  have PB := Lib.hid (fun (y : World) (R : Rep y p M5 L5) (r f : Int) (h : M5.valid r = false ∨ curB M5 f = false) => Preimage_bad r f R SL.out.1 (SL.out.2 f).1 (SL.out.2 f).2 h)
  clear o f5 nn q5 CN
  generalize hbad : -1 - (n : Int) = bad at *
  go_wp2_with fail
  refine (IB.out w5 H5.out.rep bad 1 (.inl BV.out)).mono ?_
  rintro e w6 ⟨rfl, k6⟩
  have H6 := Lib.hid (H5.out.no k6)
  have KF6 := Lib.hid (KF.out.trans_no k6)
  clear k6
  go_wp2_with fail
  refine (IB.out w6 H6.out.rep d bad (.inr BC.out)).mono ?_
  rintro e w7 ⟨rfl, k7⟩
  have H7 := Lib.hid (H6.out.no k7)
  have KF7 := Lib.hid (KF6.out.trans_no k7)
  clear k7
  go_wp2_with fail
  refine (PB.out w7 H7.out.rep d bad (.inr BC.out)).mono ?_
  rintro e w8 ⟨rfl, k8⟩
  have H8 := Lib.hid (H7.out.no k8)
  have KF8 := Lib.hid (KF7.out.trans_no k8)
  clear k8
  go_wp2_with fail
  refine (PB.out w8 H8.out.rep bad 1 (.inl BV.out)).mono ?_
  rintro e w9 ⟨rfl, k9⟩
  have H9 := Lib.hid (H8.out.no k9)
  have KF9 := Lib.hid (KF8.out.trans_no k9)
  clear k9
  go_wp2_with fail
  refine (IB.out w9 H9.out.rep d nx (.inr NC.out)).mono ?_
  rintro e w10 ⟨rfl, k10⟩
  have H10 := Lib.hid (H9.out.no k10)
  have KF10 := Lib.hid (KF9.out.trans_no k10)
  clear k10
  go_wp2_with fail
  refine (PB.out w10 H10.out.rep d nx (.inr NC.out)).mono ?_
  rintro e w11 ⟨rfl, k11⟩
  have KF11 := Lib.hid (KF10.out.trans_no k11)
  clear k11
  go_wp2_with fail
  go_ret
  exact ⟨rfl, KF11.out⟩
end Go.Proofs.YteflklmijepboaaGreatDoor
