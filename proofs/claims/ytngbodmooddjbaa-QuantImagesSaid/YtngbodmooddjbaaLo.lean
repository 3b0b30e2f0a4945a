/-
  Walks: 'Least' of the package quant: the row of the values lies off the manager.
-/
import Derived.Test.YtngbodmooddjbaaLe
namespace Go.Proofs.Ytngbodmooddjbaa
open Go.RowKit

def LePost2 (w : World) (p : Nat) (L : Lay) (n c : Nat) (B : List (Int × Bfn)) (l : List Bool) (e : Ending) (w' : World) : Prop :=
  ∃ a cp M' L', e = .returned (.tuple #[.slice a l.length cp, .bool true]) ∧ Rep w' p M' L' ∧ Kp (L.at p) w w' ∧ Fresh (L.at p) (L'.at p) w ∧ Qk n c M' B ∧ w'.ownsRow w.heap.size 4 1 (.slice a l.length cp) l.length (l.map .bool) ∧ ∀ b, (Value.slice a l.length cp).ownBlock = some b → ¬ L'.at p b

set_option maxRecDepth 100000 in
set_option maxHeartbeats 4000000 in
theorem Least_off {p n c s : Nat} {M : Mgr} {L : Lay} {B : List (Int × Bfn)} {f : Int} {F : Bfn} (vs : List Nat) (nd : vs.Nodup) (hl : vs.length ≤ 256) (hlv : ∀ v, v ∈ vs → v < n) {w : World} (R : Rep w p M L) (b : Qk n c M B) (hf : (f, F) ∈ B) (hne : f ≠ 0) (hs : PSt n F s) (hn : n ≤ 256) (hsup : ∀ v, v ∈ M.supM f → v ∈ vs) {dv : Value} (hd : SrcAt w dv 1 vs.length (vs.map natV)) (hoff : ∀ g o m cc, dv = .slice (some ⟨g, o, none⟩) m cc → ¬ L.at p g) (hc : c + vs.length * (2 * (n * s)) ≤ 1000000000000) :
    Calls Try.prog 49 #[ptr p, .int .i64 f, dv] w (LePost2 w p L n (c + vs.length * (2 * (n * s))) B (lsV F vs)) := by
  obtain ⟨j0, hj0, hy0, hy1, hy2⟩ := info_parts info_bool
  have CM := Lib.hid (complete_ok f vs (by omega) (fun v hv => by rw [b.nn]; exact hlv v hv) (b.at hf).1 R (by rw [b.nn]; exact hn) hd true ⟨fun _ => ⟨nd, hsup⟩, fun _ => rfl⟩)
  have HD : Hid (∀ y, Kp (L.at p) w y → SrcAt y dv 1 vs.length (vs.map natV)) := Lib.hid (fun y ky => hd.kp ky (fun _ g o m cc h => hoff g o m cc h))
  obtain ⟨ao, cp, rfl⟩ := hd.form
  have LV := Lib.hid hlv
  have HC := Lib.hid hc
  have hfz : (f == 0) = false := by simpa using hne
  have J0 : Hid (∀ y, Kp No w y → LeR w p L n c s B F vs vs.length (.int .i64 f) (.slice none 0 0) (.int .i64 0) y) := Lib.hid (fun y ky =>
    ⟨0, f, M, L, by omega, rfl, rfl, (Sd.start R).no ky, by rw [Nat.zero_mul, Nat.add_zero]; exact b.sub (fun x hx => by
      rcases List.mem_cons.1 hx with rfl | hx
      · exact hf
      · exact hx), hs, World.ownsRow_nil _ _ _ _, fun z hz => by cases hz⟩)
  have hli : (vs.length : Int) ≤ 256 := by omega
  have RL := Lib.hid R.lt
  clear R b hf hs hsup hd hoff hlv nd hn hc hne
  go_enter Try.func49, Try.ntmps49
  go_wp2_with fail
  refine CM.out.mono ?_
  rintro e w1 ⟨rfl, k1⟩
  have JA := Lib.hid (J0.out w1 k1)
  clear CM J0 k1 hfz
  go_wp2_with fail
  go_loopg [1, 8, 24] vs.length (fun gk s1 s8 s24 x => LeR w p L n c s B F vs gk s1 s8 s24 x)
  case atStart => exact JA.out
  case round =>
    clear JA
    obtain ⟨i, f1, M1, L1, hi, rfl, rfl, sd, qk, ps, row, off⟩ := hrel
    by_cases hlt : i < vs.length
    · obtain ⟨g1, o1, c1, hv1, _, hcell⟩ := (HD.out wr sd.kp).cellAt (by omega)
      have hv2 : ao = some ⟨g1, o1, none⟩ := by injection hv1
      subst hv2
      have hcl := hcell i (natV (vs.getD i 0)) (by simp [hlt])
      unfold natV at hcl
      have hmem : vs.getD i 0 ∈ vs := by rw [List.getD_eq_getElem?_getD, List.getElem?_eq_getElem hlt]; exact List.getElem_mem hlt
      have hvn := LV.out _ hmem
      have et : vs.take (i + 1) = vs.take i ++ [vs.getD i 0] := by rw [List.take_succ_eq_append_getElem hlt]; simp [hlt]
      have hlti : (i : Int) < vs.length := by omega
      have HI := Lib.hid hi
      have SDH := Lib.hid sd
      have QK := Lib.hid qk
      have PS := Lib.hid ps
      have ROW := Lib.hid row
      have OFF := Lib.hid off
      have EG := Lib.hid (lsG_snoc (vs.take i) F (vs.getD i 0))
      have EV := Lib.hid (lsV_snoc (vs.take i) F (vs.getD i 0))
      rw [← et] at EG EV
      have hcost : c + i * (2 * (n * s)) + 2 * (n * s) ≤ 1000000000000 := by
        have h1 : (i + 1) * (2 * (n * s)) ≤ vs.length * (2 * (n * s)) := Nat.mul_le_mul_right _ hlt
        rw [Nat.add_mul] at h1
        have := HC.out; omega
      have HCO := Lib.hid hcost
      clear hcell hv1 hi sd qk ps row off hmem et hcost
      generalize vs.getD i 0 = v at *
      generalize lsG F (vs.take i) = G at *
      go_wp2_with fail
      refine (RestrictQ SDH.out.rep QK.out (.head _) hvn false (PS.out.upd false) (by have := HCO.out; omega)).mono ?_
      rintro e w2 ⟨r1, M2, ret2, qk2, _⟩
      obtain ⟨rfl, L2, sd2, row2, off2⟩ := le_step SDH.out ROW.out OFF.out ret2
      have ZI := zero_iff qk2 (.head _)
      have SD2 := Lib.hid sd2
      have QK2 := Lib.hid qk2
      have ROW2 := Lib.hid row2
      have OFF2 := Lib.hid off2
      clear sd2 qk2 row2 off2 ret2 SDH QK ROW OFF
      by_cases hz : (r1 == 0) = true
      · have hB : lsB G v = true := lsB_t (ZI.1 hz)
        rw [hB] at EG EV
        clear ZI hB
        go_wp2_with fail
        refine (RestrictQ SD2.out.rep QK2.out (.tail _ (.head _)) hvn true (PS.out.upd true) (by have := HCO.out; omega)).mono ?_
        rintro e w4 ⟨r2, M4, ret4, qk4, _⟩
        obtain ⟨rfl, L4, sd4, row4, off4⟩ := le_step SD2.out ROW2.out OFF2.out ret4
        have SD4 := Lib.hid sd4
        have ROW4 := Lib.hid row4
        have OFF4 := Lib.hid off4
        have QK4 : Hid (Qk n (c + (i + 1) * (2 * (n * s))) M4 ((r2, lsG F (vs.take (i + 1))) :: B)) := Lib.hid (by
          rw [EG.out]
          refine (qk4.sub (fun x hx => ?_)).mono (by rw [Nat.add_mul]; omega)
          rcases List.mem_cons.1 hx with rfl | hx
          · exact .head _
          · exact .tail _ (.tail _ (.tail _ hx)))
        have PS4 : Hid (PSt n (lsG F (vs.take (i + 1))) s) := Lib.hid (by rw [EG.out]; exact PS.out.upd true)
        clear sd4 qk4 row4 off4 ret4 SD2 QK2 ROW2 OFF2 PS EG
        go_upto_region 13 with (at_builtin; refine wpList_append_lies _ rfl (.tmp 40) (.tmp 42) _ rfl w.heap.size 4 j0 _ 1 1 Try.underlying44 hj0 hy0 hy1 hy2 rfl (by omega) u8 i ((lsV F (vs.take i)).map .bool) rfl (ROW4.out.alloc _) ⟨w4.heap.size, 0, none⟩ 1 1 [.bool true] rfl rfl (World.news_of_block (heap_alloc_new _ _)) (by simp [Value.oneCell']) (by omega) (by unfold maxLen; omega) (by omega) (by have := SD4.out.kp.size; simp; omega) (w4.heap.size + 1) (by simp) ?_; intro g5 cap5 w5 hown hgrow hat hlt2)
        have JN : Hid (LeR w p L n c s B F vs (vs.length - (i + 1)) (.int .i64 r2) (.slice (some ⟨g5, 0, none⟩) (i + 1) cap5) (.int .i64 ((i + 1 : Nat) : Int)) w5) := Lib.hid (by
          obtain ⟨sd5, off5⟩ := le_grow (v := .slice (some ⟨g5, 0, none⟩) (i + 1) cap5) SD4.out ROW4.out OFF4.out (grown_no (Kp.alloc _) hgrow) (fun b hb => by
            have : g5 = b := by injection hb
            subst this
            rcases hat with h | h
            · exact .inl h
            · right; omega)
          refine ⟨i + 1, r2, M4, L4, by have := HI.out; omega, rfl, rfl, sd5, QK4.out, PS4.out, ?_, off5⟩
          rw [EV.out, List.map_append]
          exact hown)
        clear hown hgrow hat hlt2
        go_wp2_with fail
        go_roundg (vs.length - (i + 1))
        case measure => have := HI.out; omega
        case rel => exact JN.out
      · have hB : lsB G v = false := lsB_f (fun h => hz (ZI.2 h))
        rw [hB] at EG EV
        have hz' : (r1 == 0) = false := by simpa using hz
        clear ZI hB hz
        have SD4 := SD2
        have ROW4 := ROW2
        have OFF4 := OFF2
        have QK4 : Hid (Qk n (c + (i + 1) * (2 * (n * s))) M2 ((r1, lsG F (vs.take (i + 1))) :: B)) := Lib.hid (by
          rw [EG.out]
          refine (QK2.out.sub (fun x hx => ?_)).mono (by rw [Nat.add_mul]; omega)
          rcases List.mem_cons.1 hx with rfl | hx
          · exact .head _
          · exact .tail _ (.tail _ hx))
        have PS4 : Hid (PSt n (lsG F (vs.take (i + 1))) s) := Lib.hid (by rw [EG.out]; exact PS.out.upd false)
        clear SD2 QK2 ROW2 OFF2 PS EG
        go_upto_region 13 with (at_builtin; refine wpList_append_lies _ rfl (.tmp 40) (.tmp 42) _ rfl w.heap.size 4 j0 _ 1 1 Try.underlying44 hj0 hy0 hy1 hy2 rfl (by omega) u8 i ((lsV F (vs.take i)).map .bool) rfl (ROW4.out.alloc _) ⟨w2.heap.size, 0, none⟩ 1 1 [.bool false] rfl rfl (World.news_of_block (heap_alloc_new _ _)) (by simp [Value.oneCell']) (by omega) (by unfold maxLen; omega) (by omega) (by have := SD4.out.kp.size; simp; omega) (w2.heap.size + 1) (by simp) ?_; intro g5 cap5 w5 hown hgrow hat hlt2)
        have JN : Hid (LeR w p L n c s B F vs (vs.length - (i + 1)) (.int .i64 r1) (.slice (some ⟨g5, 0, none⟩) (i + 1) cap5) (.int .i64 ((i + 1 : Nat) : Int)) w5) := Lib.hid (by
          obtain ⟨sd5, off5⟩ := le_grow (v := .slice (some ⟨g5, 0, none⟩) (i + 1) cap5) SD4.out ROW4.out OFF4.out (grown_no (Kp.alloc _) hgrow) (fun b hb => by
            have : g5 = b := by injection hb
            subst this
            rcases hat with h | h
            · exact .inl h
            · right; omega)
          refine ⟨i + 1, r1, M2, L2, by have := HI.out; omega, rfl, rfl, sd5, QK4.out, PS4.out, ?_, off5⟩
          rw [EV.out, List.map_append]
          exact hown)
        clear hown hgrow hat hlt2
        go_wp2_with fail
        go_roundg (vs.length - (i + 1))
        case measure => have := HI.out; omega
        case rel => exact JN.out
    · obtain rfl : i = vs.length := by omega
      have hge : ¬ (vs.length : Int) < vs.length := by omega
      rw [List.take_length] at row qk
      obtain ⟨a8, c8, rfl⟩ := rowForm row
      have FIN : Hid (LePost2 w p L n (c + vs.length * (2 * (n * s))) B (lsV F vs) (.returned (.tuple #[.slice a8 vs.length c8, .bool true])) wr) := Lib.hid (by
        refine ⟨a8, c8, M1, L1, by rw [lsV_len], sd.rep, sd.kp, sd.fr, qk.sub (fun x hx => .tail _ hx), ?_, ?_⟩
        · rw [lsV_len]; exact row
        · rw [lsV_len]; exact off)
      clear hi hlt sd qk ps row off
      go_wp2_with fail
      go_ret2
      exact FIN.out

end Go.Proofs.Ytngbodmooddjbaa
