/-
  Walks: 'Do' of the package netverifylaw28, the fourth way: 'Sift'.
-/
import Derived.Test.YtngbodmooddjbaaDo
namespace Go.Proofs.Ytngbodmooddjbaa
open Go.RowKit

/-- The variables that are listed so far. -/
def DvR (X : World) (m gk : Nat) (s18 s19 : Value) (y : World) : Prop := ∃ (v : Nat) (q : List Nat) (vv : Value), v + gk = m ∧ s19 = .int .i64 (v : Int) ∧ vv = s18 ∧ q.length ≤ v ∧ y.ownsRow X.heap.size 3 1 vv q.length (q.map natV) ∧ Kp No X y
set_option maxRecDepth 1000000 in
set_option maxHeartbeats 4000000 in
theorem Do_sift {w : World} {p n : Nat} {x : World} {M M0 : Mgr} {L : Lay} {fv tv ov : Value} {fs : List Int} {Fs : List BF} {tvs : List Value} {l : List Nat} (A0 A1 A2 : Int) (j : DoJ w p n x M L fv tv fs Fs tvs l M0) (b : DoB n M0 M) (V : RfV x p L ov l) (hw : pick A0 4 = 3) (hfp : 0 < fs.length) (hfs : fs.length ≤ 1000) :
    Calls Try.prog 45 #[ptr p, fv, ov, .agg #[.int .i64 A0, .int .i64 A1, .int .i64 A2]] x (DoPost w p n fv tv fs Fs tvs M0 M) := by
  obtain ⟨i0, hi0, hz0, hz1, hz2⟩ := info_parts info_int
  have PK : Hid (∀ y, Calls Try.prog 20 #[.int .i64 A0, .int .i64 4] y fun e w' => e = .returned (.int .i64 3) ∧ y = w') := Lib.hid (fun y => by
    have := Pick_ok A0 4 y (by omega) (by omega)
    rw [hw] at this
    exact this)
  obtain ⟨af, cf, hfv, _⟩ := ownsRow_len (row_zero j.fr.frow)
  subst hfv
  obtain ⟨ao, co, rfl⟩ := V.src.form
  have B := Lib.hid b
  have J1 := Lib.hid (j.no (Kp.alloc (.cells #[.int .i64 A0, .int .i64 A1, .int .i64 A2] 78)))
  have V1 := Lib.hid (V.no (Kp.alloc (.cells #[.int .i64 A0, .int .i64 A1, .int .i64 A2] 78)))
  have HLEN := Lib.hid j.len
  have bx := heap_alloc_new x (.cells #[.int .i64 A0, .int .i64 A1, .int .i64 A2] 78)
  have BX : Hid (∀ y, Kp No (x.alloc (.cells #[.int .i64 A0, .int .i64 A1, .int .i64 A2] 78)) y → y.cell? ⟨x.heap.size, 0, none⟩ = some (.int .i64 A0) ∧ y.cell? ⟨x.heap.size, 1, none⟩ = some (.int .i64 A1) ∧ y.cell? ⟨x.heap.size, 2, none⟩ = some (.int .i64 A2) ∧ x.heap.size < y.heap.size) := Lib.hid (fun y k => by
    have h : y.heap[x.heap.size]? = _ := (k.block _ (heap_lt bx) (fun h => h)).trans bx
    exact ⟨by simp [World.cell?, h], by simp [World.cell?, h], by simp [World.cell?, h], heap_lt h⟩)
  clear j V b hw bx
  go_enter Try.func45, Try.ntmps45
  go_wp2_with fail
  generalize (x.alloc (.cells #[.int .i64 A0, .int .i64 A1, .int .i64 A2] 78)) = X at *
  obtain ⟨bb, hbb⟩ : ∃ bb, x.heap.size = bb := ⟨_, rfl⟩
  rw [hbb] at BX ⊢
  clear hbb
  refine (PK.out _).mono ?_
  rintro e X ⟨rfl, rfl⟩
  clear PK
  obtain ⟨f0, f1, f2, lb⟩ := BX.out X (Kp.refl _ _)
  have hl6 : l.length ≤ 6 := by rw [HLEN.out]; exact B.out.n6
  go_wp2
  go_loopg [18, 19] l.length (fun gk s18 s19 y => DvR X l.length gk s18 s19 y)
  case atStart => exact ⟨0, [], _, by omega, rfl, rfl, Nat.le_refl _, World.ownsRow_nil _ _ _ _, Kp.refl _ _⟩
  case round =>
    obtain ⟨v, q, vv, hv, rfl, e18, hq, row, kp⟩ := hrel
    subst e18
    have HV := Lib.hid hv
    have KP := Lib.hid kp
    have ROW := Lib.hid row
    have HQ := Lib.hid hq
    by_cases hlt : v < l.length
    · have hlti : (v : Int) < l.length := by omega
      clear f0 f1 f2 lb
      obtain ⟨f0, f1, f2, lb⟩ := BX.out wr kp
      have hsz := kp.size
      have hq6 : q.length ≤ 6 := by omega
      clear hv kp hq
      go_upto_region 20 with fail
      · go_wp2_with (at_builtin; refine wpList_append_lies _ rfl (.tmp 117) (.tmp 119) _ rfl X.heap.size 3 i0 _ 1 8 Try.underlying33 hi0 hz0 hz1 hz2 rfl (by omega) vv q.length (q.map natV) rfl (row.alloc _) ⟨wr.heap.size, 0, none⟩ 1 1 [.int .i64 (v : Int)] rfl rfl (World.news_of_block (heap_alloc_new _ _)) (by simp [Value.oneCell']) (by omega) (by unfold maxLen; omega) (by omega) (by simp; omega) (wr.heap.size + 1) (by simp) ?_; intro g5 cap5 w5 hown hgrow hat hlt5)
        have JN : Hid (DvR X l.length (l.length - (v + 1)) (.slice (some ⟨g5, 0, none⟩) (q.length + 1) cap5) (.int .i64 ((v + 1 : Nat) : Int)) w5) := Lib.hid (by
          have kg : Kp (fun z => vv.ownBlock = some z) wr w5 := grown_no (Kp.alloc _) hgrow
          refine ⟨v + 1, q ++ [v], _, by omega, rfl, rfl, by rw [List.length_append]; have := HQ.out; simp; omega, ?_, KP.out.trans (A' := fun z => vv.ownBlock = some z) (fun z h => .inr (ROW.out.lt z h).1) kg⟩
          rw [List.length_append, List.map_append]
          exact hown)
        clear hown hgrow hat hlt5 row
        go_wp2
        go_roundg (l.length - (v + 1))
        case measure => have := HV.out; omega
        case rel => exact JN.out
      · go_roundg (l.length - (v + 1))
        case measure => have := HV.out; omega
        case rel => exact ⟨v + 1, q, vv, by omega, by go_num, rfl, by have := HQ.out; omega, ROW.out, KP.out⟩
    · obtain rfl : v = l.length := by omega
      have hge : ¬ (l.length : Int) < l.length := by omega
      have J2 := Lib.hid (J1.out.no kp)
      clear f0 f1 f2 lb
      obtain ⟨f0, f1, f2, lb⟩ := BX.out wr kp
      obtain ⟨aq, cq, rfl, _⟩ := ownsRow_len (row_zero row)
      have PKF : Hid (∀ y, Calls Try.prog 20 #[.int .i64 A1, .int .i64 (fs.length : Int)] y fun e w' => e = .returned (.int .i64 (pick A1 fs.length : Int)) ∧ y = w') := Lib.hid (fun y => Pick_ok A1 fs.length y hfp (by omega))
      have hp := pick_lt A1 (n := fs.length) hfp
      obtain ⟨k, hk⟩ : ∃ k, pick A1 fs.length = k := ⟨_, rfl⟩
      rw [hk] at PKF hp
      clear hv kp hq row hk hlt
      go_wp2_with fail
      refine (PKF.out _).mono ?_
      rintro e w5 ⟨rfl, rfl⟩
      obtain ⟨gf, cf', gt, ct, hfv, htv, _, _⟩ := J2.out.fr.forms hfp
      cases hfv
      have fc := J2.out.fr.cellF hp
      have fl := World.block_lt_of_cell? _ _ fc
      have n1 : (k : Int) < fs.length := by omega
      obtain ⟨fq, hfq⟩ : ∃ z, fs.getD k 0 = z := ⟨_, rfl⟩
      rw [hfq] at fc
      have J3 := Lib.hid (J2.out.no (Kp.alloc (.cells #[.int .i64 fq] 27)))
      have SIFT : Hid (Calls Try.prog 43 #[ptr p, .slice (some ⟨wr.heap.size, 0, none⟩) 1 1, .slice aq q.length cq] (wr.alloc (.cells #[.int .i64 fq] 27)) (SftP (wr.alloc (.cells #[.int .i64 fq] 27)) p M L (q.map Int.ofNat) ((vld M [fq]).map M.sem))) := Lib.hid (by
        have hv := Nat.le_trans (J3.out.two B.out.wf) B.out.c0
        have hb := ar_bound (M := M) (by rw [J3.out.nn]; exact B.out.n6) hv
        have h3 := three_pow B.out.n6
        refine Sift_ok [fq] (q.map Int.ofNat) J3.out.fr.own.rep (mem_ints wr [fq] 27) ?_ (by simp) (by rw [List.length_map]; have := HQ.out; omega) (by have := B.out.c; omega) (by rw [J3.out.nn]; have := B.out.n6; omega) (by unfold big; omega) (by rw [J3.out.nn]; show 1 * 3 ^ n ≤ _; omega)
        rw [List.length_map, List.map_map]
        exact (SrcAt.of_row ROW.out).no (Kp.alloc _))
      clear hfq fl hp htv
      go_wp2_with fail
      refine SIFT.out.mono ?_
      rintro e w6 ⟨l6, t, t0, rfl, a6, sd⟩
      obtain ⟨M', L', j6, nb6, kp6, f6⟩ := J3.out.ar B.out.n6 B.out.wf B.out.c0 sd.perm (by rw [sd.len, J3.out.nn]) a6
      have J6 := Lib.hid j6
      have ORD := Lib.hid (Order_ok j6.fr.own.rep (by rw [j6.nn]; have := B.out.n6; omega))
      have NB := Lib.hid nb6
      clear a6 sd j6 nb6 kp6 f6 SIFT J3 J2 fc
      go_wp2_with fail
      refine ORD.out.mono ?_
      rintro e w7 ⟨ov, rfl, orow, k7⟩
      rw [J6.out.ord] at orow
      have FIN : Hid (DoPost w p n (.slice (some ⟨gf, 0, none⟩) fs.length cf) tv fs Fs tvs M0 M (.returned (.tuple #[ov, .bool true])) w7) := Lib.hid ⟨_, l6, M', L', rfl, J6.out.no k7, ⟨SrcAt.of_row orow, by rw [J6.out.len]; exact B.out.n1, fun g o m c e h => by
        have h1 := (orow.lt g (by rw [e]; rfl)).1
        have h2 := J6.out.fr.own.rep.lt g h
        omega, ownsRow_mono orow (Nat.zero_le _)⟩, NB.out⟩
      obtain ⟨aov, cov, rfl, _⟩ := ownsRow_len (row_zero orow)
      clear orow k7 ORD J6
      go_wp2
      go_ret2
      exact FIN.out

theorem Do_ok {w : World} {p n : Nat} {x : World} {M M0 : Mgr} {L : Lay} {fv tv ov : Value} {fs : List Int} {Fs : List BF} {tvs : List Value} {l : List Nat} (A0 A1 A2 : Int) (j : DoJ w p n x M L fv tv fs Fs tvs l M0) (b : DoB n M0 M) (V : RfV x p L ov l) (hfp : 0 < fs.length) (hfs : fs.length ≤ 1000) :
    Calls Try.prog 45 #[ptr p, fv, ov, .agg #[.int .i64 A0, .int .i64 A1, .int .i64 A2]] x (DoPost w p n fv tv fs Fs tvs M0 M) := by
  have h := pick_lt A0 (n := 4) (by omega)
  have h4 : pick A0 4 = 0 ∨ pick A0 4 = 1 ∨ pick A0 4 = 2 ∨ pick A0 4 = 3 := by omega
  rcases h4 with h | h | h | h
  · exact Do_swap A0 A1 A2 j b V h
  · exact Do_place A0 A1 A2 j b V h
  · exact Do_set A0 A1 A2 j b V h
  · exact Do_sift A0 A1 A2 j b V h hfp hfs

end Go.Proofs.Ytngbodmooddjbaa
