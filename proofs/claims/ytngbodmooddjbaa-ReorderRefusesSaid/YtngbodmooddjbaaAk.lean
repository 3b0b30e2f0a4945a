/-
  Walks: 'Arrange'.
-/
import Derived.Test.YtngbodmooddjbaaAj
namespace Go.Proofs.Ytngbodmooddjbaa
open Go.RowKit

theorem natsAt_get {l : List Nat} {i : Nat} (h : i < l.length) : (l.map natV)[i]? = some (natV (l.getD i 0)) := by simp [h]

set_option maxRecDepth 1000000 in
set_option maxHeartbeats 8000000 in
theorem Arrange_ok {w : World} {p : Nat} {M : Mgr} {L : Lay} {l : List Nat} {ov : Value} (R : Rep w p M L) (hp : PermL l) (hl : l.length = M.n) (hn : M.n ≤ 256) (src : SrcAt w ov 1 l.length (l.map natV))
    (hb : (visF M).length * 3 ^ M.n + M.n + 2 ≤ big) (hm : M.nodes.length ≤ 500000000000) :
    Calls Try.prog 79 #[ptr p, ov] w (ArPost w p M L l) := by
  obtain ⟨i0, hi0, hz0, hz1, hz2⟩ := info_parts info_ref0
  have RR := Lib.hid R
  have HP := Lib.hid hp
  have HL := Lib.hid hl
  have SRC := Lib.hid src
  have HB := Lib.hid hb
  have HM := Lib.hid hm
  have hl256 : l.length ≤ 256 := by omega
  have plt := R.plt
  obtain ⟨gn, cn, X, rbk, hX⟩ := rbK_of R
  have RBK := Lib.hid rbk
  have HX := Lib.hid hX
  have ENV : Hid (nvars (l.length : Int) = l.length) := Lib.hid (by unfold nvars; rw [if_neg (by omega), if_neg (by omega)]; omega)
  have NEW : Hid (Calls Try.prog 12 #[.int .i64 (l.length : Int)] w (NewPost' w l.length)) := Lib.hid (by have := New_ok (l.length : Int) w; rw [ENV.out] at this; exact this)
  obtain ⟨ao, co, rfl⟩ := src.form
  have hmm := @run_makeMap Try.prog
  have HMM := Lib.hid hmm
  clear R hp hl src hb hm rbk hX hmm hn
  go_enter Try.func79, Try.ntmps79
  go_wp2_with fail
  refine NEW.out.mono ?_
  rintro e w1 ⟨q, L0, rfl, rq, k1, own0⟩
  have HC := Lib.hid (Clone_ok (SRC.out.no k1) (fun x hx => by obtain ⟨y, _, rfl⟩ := List.mem_map.1 hx; rfl) (by omega))
  have RQ := Lib.hid rq
  have K1 := Lib.hid k1
  have OWN0 := Lib.hid own0
  clear rq k1 own0 NEW
  go_wp2_with fail
  refine HC.out.mono ?_
  rintro e w2 ⟨so, rfl, orow, k2⟩
  obtain ⟨ak, ck, rfl, _⟩ := ownsRow_len (row_zero orow)
  obtain ⟨F, raw, sound⟩ := (RQ.out.no k2).raw
  rw [Mgr.new_uq] at raw
  have c0 := raw.c0
  have z0 := raw.fz 0
  have qlt := raw.plt
  have HSND := Lib.hid (newO_sound l sound)
  have RAW := Lib.hid (raw.setOrder (row_zero orow))
  have L0S : Hid (ArL w q { L0 with so := .slice ak l.length ck } l F 0 (w2.setCell ⟨q, 0, none⟩ (.slice ak l.length ck))) := Lib.hid (by
    refine ⟨RAW.out, (K1.out.trans_no k2).trans (A := No) (A' := fun z => z = q) (fun z e => .inr (by rw [e]; exact OWN0.out q (.inl rfl))) ((Kp.setCell _ _).mono (fun _ _ e => e)), fun x hx => ?_, fun k e1 e2 => ?_⟩
    · have hs := K1.out.size
      rcases hx with h | h | h | h | h
      · exact OWN0.out x (.inl h)
      · exact OWN0.out x (.inr (.inl h))
      · exact OWN0.out x (.inr (.inr (.inl h)))
      · have := (orow.lt x h).1; omega
      · exact OWN0.out x (.inr (.inr (.inr (.inr h))))
    · have h1 := (orow.lt k e1).1
      have h2 := RQ.out.lt k (.inr (.inr (.inr (.inr (.inl e2)))))
      omega)
  clear raw sound orow HC k2 RAW RQ K1 OWN0
  generalize ({ L0 with so := .slice ak l.length ck } : Lay) = LN at *
  go_upto_region 2 with fail
  clear c0 z0 qlt
  generalize (w2.setCell ⟨q, 0, none⟩ (.slice ak l.length ck)) = w3 at *
  go_wp2_with fail
  have A0 : Hid (ArLR w q LN l F l.length (.int .i64 0) w3) := Lib.hid ⟨0, by omega, rfl, L0S.out⟩
  go_loopg [23] l.length (fun gk s y => ArLR w q LN l F gk s y)
  case atStart => exact A0.out
  case round =>
    clear A0
    obtain ⟨k, hk, rfl, S⟩ := hrel
    have HK := Lib.hid hk
    have SA := Lib.hid S
    by_cases hlt : k < l.length
    · have hlti : (k : Int) < l.length := by omega
      obtain ⟨go, oo, cc, hv, glt, hc⟩ := (SRC.out.no S.kp).cellAt (by omega)
      cases hv
      have d1 := hc k (natV (l.getD k 0)) (by simp [hlt])
      have c1 := S.raw.c1
      have qlt := S.raw.plt
      have lrow := S.raw.level
      rw [lvO_len] at lrow
      obtain ⟨gl, cl, hsl, _, _, _, hcl, hzl⟩ := ownsRow_open lrow (by omega)
      rw [hsl] at c1
      have vlt : l.getD k 0 < l.length := HP.out.lt hlt
      have e1 := hcl (l.getD k 0) (natV ((lvO l k).getD (l.getD k 0) 0)) (natsAt_get (by rw [lvO_len]; exact vlt))
      have e2 := hzl (l.getD k 0)
      have gl2 := World.block_lt_of_cell? _ _ e1
      have hkl : k + 1 ≤ 256 := by omega
      have JN : Hid (ArLR w q LN l F (l.length - (k + 1)) (.int .i64 ((k + 1 : Nat) : Int)) (wr.setCell ⟨gl, l.getD k 0, none⟩ (.int .i64 (k : Int)))) := Lib.hid ⟨k + 1, by have := HK.out; omega, rfl, SA.out.step hsl⟩
      have hvi : ((l.getD k 0 : Nat) : Int) < l.length := by omega
      unfold natV at d1 e1
      clear hk S hc lrow hcl hzl hsl vlt L0S
      generalize (lvO l k).getD (l.getD k 0) 0 = old at *
      generalize l.getD k 0 = v at *
      go_wp2_with fail
      go_roundg (l.length - (k + 1))
      case measure => have := HK.out; omega
      case rel => exact JN.out
    · obtain rfl : k = l.length := by omega
      have Y1 := Lib.hid SA.out
      clear hk S SA L0S hlt HK
      have RQ : Hid (Rep wr q (newO l) LN) := Lib.hid ⟨⟨F, by have := Y1.out.raw; rw [newO_uq]; exact this, HSND.out⟩, newO_wf HP.out⟩
      have m0 := MapAs.empty wr intV natV
      obtain ⟨W4, up4, m4, k4, s4⟩ := m0.update keyRef Try.underlying101 (0 : Int) 0
      obtain ⟨W5, up5, m5, k5, s5⟩ := m4.update keyRef Try.underlying101 (1 : Int) 1
      have u4 : (Instr.mapUpdate 101 (.map (some wr.heap.size)) (.int .i64 0) (.int .i64 0)).run Try.prog (wr.alloc (.map #[] 0)) = .ok () W4 := up4 0
      have u5 : (Instr.mapUpdate 101 (.map (some wr.heap.size)) (.int .i64 1) (.int .i64 1)).run Try.prog W4 = .ok () W5 := up5 0
      have n0 := MapAs.empty W5 intV natV
      obtain ⟨W6, up6, m6, k6, s6⟩ := n0.update keyRef Try.underlying101 (0 : Int) 0
      obtain ⟨W7, up7, m7, k7, s7⟩ := m6.update keyRef Try.underlying101 (1 : Int) 1
      have u6 : (Instr.mapUpdate 101 (.map (some W5.heap.size)) (.int .i64 0) (.int .i64 0)).run Try.prog (W5.alloc (.map #[] 0)) = .ok () W6 := up6 0
      have u7 : (Instr.mapUpdate 101 (.map (some W5.heap.size)) (.int .i64 1) (.int .i64 1)).run Try.prog W6 = .ok () W7 := up7 0
      have s3 : (wr.alloc (.map #[] 0)).heap.size = wr.heap.size + 1 := by simp
      have s5' : W5.heap.size = wr.heap.size + 1 := by rw [s5, s4, s3]
      have kA : Kp No wr W5 := (Kp.alloc (.map #[] 0)).trans (A := No) (A' := fun z => z = wr.heap.size) (fun z e => .inr (by omega)) (k4.trans (A' := fun z => z = wr.heap.size) (fun z e => .inl e) k5)
      have kB : Kp No W5 W7 := (Kp.alloc (.map #[] 0)).trans (A := No) (A' := fun z => z = W5.heap.size) (fun z e => .inr (by omega)) (k6.trans (A' := fun z => z = W5.heap.size) (fun z e => .inl e) k7)
      have J0 : Hid (ArJ w M l q wr.heap.size W5.heap.size X 0 (.slice none 0 0) W7 (newO l) LN [] arK) := Lib.hid
        (ArJ.start RR.out HP.out RQ.out Y1.out.kp Y1.out.own (m5.kp kB (fun x => x)) m7 (kA.trans_no kB) (Nat.le_refl _) (by omega) (by omega) HX.out)
      have hnbi : Hid (wr.heap.size ≤ W5.heap.size) := Lib.hid (by omega)
      clear up4 up5 up6 up7 m0 m4 m5 m6 m7 n0 k4 k5 k6 k7 s3 s4 s5 s6 s7 s5' kA kB Y1 RQ
      obtain ⟨F9, raw9, _⟩ := (RR.out.no J0.out.kp).raw
      have c3 := raw9.c3
      obtain ⟨bs, cs, hss, hcs1, hcs2, _, hcs, _⟩ := ownsRow_open raw9.shown (by rw [RR.out.wf.sh]; have := RR.out.wf.two; omega)
      rw [hss] at c3
      have plt7 := raw9.plt
      have hsl7 : M.shown.length ≤ 500000000000 := by rw [RR.out.wf.sh]; exact HM.out
      clear raw9 hcs hcs1 hcs2
      have HSS := Lib.hid hss
      clear hss
      have hmm := HMM.out
      go_wp2_with fail
      clear u4 u5 u6 u7 hmm
      generalize wr.heap.size = bi at *
      generalize W5.heap.size = bn at *
      have R0 : Hid (ArR w M l q bi bn X M.shown.length (.slice none 0 0) (.int .i64 0) W7) := Lib.hid ⟨0, _, _, _, _, by omega, rfl, J0.out⟩
      go_loopg [9, 45] M.shown.length (fun gk s9 s45 y => ArR w M l q bi bn X gk s9 s45 y)
      case atStart => exact R0.out
      case round =>
        clear R0 J0
        obtain ⟨j, N, LN', Rs, K0, hj, rfl, J⟩ := hrel
        have HJ := Lib.hid hj
        have JJ := Lib.hid J
        obtain ⟨ar, cr, rfl, hrm⟩ := ownsRow_len (row_zero J.row)
        by_cases hlt2 : j < M.shown.length
        · have hlti2 : (j : Int) < M.shown.length := by omega
          obtain ⟨F8, raw8, _⟩ := (RR.out.no J.kp).raw
          obtain ⟨bs', cs', hss', _, _, _, hcs, _⟩ := ownsRow_open raw8.shown (by omega)
          rw [HSS.out] at hss'
          cases hss'
          have d1 := hcs j (.bool (M.shown.getD j false)) (by simp [hlt2])
          have dl := World.block_lt_of_cell? _ _ d1
          have hRl := J.rl
          have hjl : j + 1 ≤ 500000000000 := by omega
          clear raw8 hcs hj
          cases hv : M.shown.getD j false with
          | false =>
            rw [hv] at d1
            have JN : Hid (ArR w M l q bi bn X (M.shown.length - (j + 1)) (.slice ar Rs.length cr) (.int .i64 ((j + 1 : Nat) : Int)) wr) := Lib.hid ⟨j + 1, N, LN', Rs, K0, by have := HJ.out; omega, rfl, JJ.out.skip hv⟩
            clear J hv
            go_wp2_with fail
            go_roundg (M.shown.length - (j + 1))
            case measure => have := HJ.out; omega
            case rel => exact JN.out
          | true =>
            rw [hv] at d1
            have HV : Hid (M.vis j = true) := Lib.hid hv
            have CA := Lib.hid (rebuild_ok (n := l.length) RR.out.wf HL.out.symm (by have := HM.out; omega) (l.length + 1) N LN' X j wr RBK.out J.sk J.ad.ext.n (RR.out.wf.shst j hv) (by omega) ⟨_, mem_visB hv, Rst.self _⟩ (fun N' ad => Nat.le_trans (visB_len RR.out.wf HL.out (JJ.out.ad.trans ad)) HB.out))
            clear J hv
            go_wp2_with fail
            refine CA.out.mono ?_
            rintro e y1 ⟨N1, r, L1, rfl, t, a, st, es⟩
            obtain ⟨y2, up, m2, kk2, sz2⟩ := (JJ.out.map.kp t.kp (fun h => h.elim JJ.out.nb JJ.out.hb.2)).update keyRef Try.underlying101 (r : Int) j
            have u : (Instr.mapUpdate 101 (.map (some bn)) (.int .i64 (r : Int)) (.int .i64 (j : Int))).run Try.prog y1 = .ok () y2 := up 0
            have AM := Lib.hid (JJ.out.built RR.out.wf HV.out t a st es m2 kk2 (fun b o hb => by have := heap_lt (HX.out b o hb); have := JJ.out.hb.1; omega))
            have hrow := AM.out.row
            have hwx := AM.out.kp.size
            clear t a st es m2 kk2 sz2 up CA d1 dl
            go_upto_region 16 with fail
            clear u
            go_upto_region 17 with (at_builtin; refine wpList_append_lies _ rfl (.tmp 59) (.tmp 61) _ rfl w.heap.size 27 i0 _ 1 8 Try.underlying38 hi0 hz0 hz1 hz2 rfl (by omega) (.slice ar Rs.length cr) Rs.length (Rs.map natV) rfl (hrow.alloc _) ⟨y2.heap.size, 0, none⟩ 1 1 [.int .i64 (r : Int)] rfl rfl (World.news_of_block (heap_alloc_new _ _)) (by simp [Value.oneCell']) (by omega) (by unfold maxLen; omega) (by omega) (by simp; omega) (y2.heap.size + 1) (by simp) ?_; intro g5 cap5 w5 hown hgrow hat hlt5)
            have JN : Hid (ArR w M l q bi bn X (M.shown.length - (j + 1)) (.slice (some ⟨g5, 0, none⟩) (Rs.length + 1) cap5) (.int .i64 ((j + 1 : Nat) : Int)) w5) := Lib.hid ⟨j + 1, N1, L1, Rs ++ [r], _, by have := HJ.out; omega, rfl, AM.out.push (Kp.alloc _) hgrow (by
              rcases hat with h | h
              · exact .inl h
              · right; omega) hown (fun b o hb e => by have h1 := heap_lt (HX.out b o hb); have h2 := (AM.out.row.lt b e).1; omega)⟩
            clear hown hgrow hat hlt5 hrow AM
            go_wp2_with fail
            go_roundg (M.shown.length - (j + 1))
            case measure => have := HJ.out; omega
            case rel => exact JN.out
        · obtain rfl : j = M.shown.length := by omega
          have AO := Lib.hid (adopt_ok (JJ.out.ads RR.out HL.out HB.out HM.out))
          clear J
          go_wp2_with fail
          refine AO.out.mono ?_
          intro e w9 h9
          have RET := Lib.hid (arrange_end RR.out HL.out JJ.out h9)
          obtain ⟨rfl, _⟩ := h9
          go_wp2_with fail
          go_end0
          exact RET.out

end Go.Proofs.Ytngbodmooddjbaa
