/-
  Walks: the check of the static routes (printed by gen_kw.py).
-/
import Derived.Test.YtdgnbbmgcgfibaaGreatDoorRep
import Derived.Test.YtdgnbbmgcgfibaaGreatDoorLp
import Derived.Deep.RegionHeld3
import Derived.Deep.QuietTactic
import Derived.BigQuiet
namespace Go.Proofs.YtdgnbbmgcgfibaaGreatDoor
open Go.RowKit

section
variable {P : Program} {ops : Array Oper} {Q : Exit → Act → World → Prop} {S : World → Prop}
/-- Operation i is taken first. -/
theorem tk (i : Nat) {oi : Oper} {v : Value} {fuel : Nat} {listed : Array Bool} {a a' : Act} {w : World} (hS : S w)
    (h : wpAnyH P .any ops Q S fuel (listed.setIfInBounds i true) a' w)
    (hi : ops[i]? = some oi := by (try simp only [List.getElem?_toArray, List.getElem?_cons_zero, List.getElem?_cons_succ]); rfl)
    (hs : Region.noSelect ops = true := by kernel_rfl) (hf : Region.free .any ops listed i = true := by kernel_rfl) (hr : (Region.ready .any ops listed).contains i = true := by kernel_rfl)
    (hQ : ∀ c a w, Q (.panic c) (a.put oi.dst v) w → Q (.panic c) a w := by exact fun _ _ _ h => h)
    (hy : YieldsIf P ops S oi v a := by first | exact Or.inr ⟨by rfl, rfl⟩ | (refine Or.inl ⟨by rfl, fun w hSw => ?_⟩; (try obtain ⟨hS1, hS2⟩ := hSw); (try dsimp only at hSw); go_simp; try with_reducible rfl))
    (ha : a.put oi.dst v = a' := by (try simp only [Act.put, List.setIfInBounds_toArray, List.set_cons_zero, List.set_cons_succ]); rfl) :
    wpAnyH P .any ops Q S (fuel + 1) listed a w := by
  subst ha
  exact wpAnyH_take hi hs hf hr hQ hy hS h
/-- The same where what is known of the world says more. -/
theorem tkS (i : Nat) {S' : World → Prop} (hE : ∀ w, S w → S' w) {oi : Oper} {v : Value} {fuel : Nat} {listed : Array Bool} {a a' : Act} {w : World} (hS : S w)
    (h : wpAnyH P .any ops Q S fuel (listed.setIfInBounds i true) a' w)
    (hi : ops[i]? = some oi := by (try simp only [List.getElem?_toArray, List.getElem?_cons_zero, List.getElem?_cons_succ]); rfl)
    (hs : Region.noSelect ops = true := by kernel_rfl) (hf : Region.free .any ops listed i = true := by kernel_rfl) (hr : (Region.ready .any ops listed).contains i = true := by kernel_rfl)
    (hQ : ∀ c a w, Q (.panic c) (a.put oi.dst v) w → Q (.panic c) a w := by exact fun _ _ _ h => h)
    (hy : YieldsIf P ops S' oi v a := by first | exact Or.inr ⟨by rfl, rfl⟩ | (refine Or.inl ⟨by rfl, fun w hSw => ?_⟩; (try obtain ⟨hS1, hS2⟩ := hSw); (try dsimp only at hSw); go_simp; try with_reducible rfl))
    (ha : a.put oi.dst v = a' := by (try simp only [Act.put, List.setIfInBounds_toArray, List.set_cons_zero, List.set_cons_succ]); rfl) :
    wpAnyH P .any ops Q S (fuel + 1) listed a w := by
  subst ha
  exact wpAnyH_take hi hs hf hr hQ (hy.imp (fun ⟨h1, h2⟩ => ⟨h1, fun w h => h2 w (hE w h)⟩) id) hS h
/-- One operation alone may come up. -/
theorem op1 (i : Nat) {oi : Oper} {fuel : Nat} {listed : Array Bool} {a : Act} {w : World}
    (h : ∀ K' : Act → World → Prop, Shut (∀ a w, S w → (S w → wpAnyH P .any ops Q S fuel (listed.setIfInBounds i true) a w) → K' a w) → if Region.wanted oi (yielded ops a.tmps) = true then Oper.wp P oi a w K' Q else K' (a.put oi.dst undef) w)
    (hr : Region.ready .any ops listed = [i] := by kernel_rfl) (hi : ops[i]? = some oi := by rfl) : wpAnyH P .any ops Q S (fuel + 1) listed a w :=
  wpAnyH_ready hr (by simp) (AllReadyH.cons hi h AllReadyH.nil)
end
end Go.Proofs.YtdgnbbmgcgfibaaGreatDoor

namespace Go.Proofs.YtdgnbbmgcgfibaaGreatDoor
open Go.RowKit

theorem yields_load_rt {ops : Array Oper} {S : World → Prop} {op : Oper} {a : Act} (hw : Region.wanted op (yielded ops a.tmps) = true) (x : Operand) (ho : op.op = .load 41 x)
    (b : Nat) (hx : a.eval x = .pointer (some ⟨b, 0, none⟩)) (cs : Array Value) (hs : cs.size = 25) (hS : ∀ w, S w → w.heap[b]? = some (.cells cs 41 (0, 0))) : YieldsIf Tryz.prog ops S op (.agg cs) a :=
  .inl ⟨hw, fun w hw' => by
    unfold execOp
    simp only [ho, hx, Instr.loadAt, Instr.sureAddr, Sem.run_bind, Sem.run_pure, Result.andThen_ok, ldR hs (hS w hw')]⟩
set_option maxRecDepth 1000000 in
set_option maxHeartbeats 8000000 in
theorem checkPrefixLists_any (cs : Array Value) (w : World) (ok : RtC w cs) : Calls Tryz.prog 45 #[.agg cs] w (AnyE w) := by
  have h0 := heap_alloc_new w (.cells cs 41)
  have BX : Hid (∀ y, Kp No (w.alloc (.cells cs 41)) y → y.heap[w.heap.size]? = some (.cells cs 41 (0, 0))) := Lib.hid (fun y k => (k.block _ (heap_lt h0) (fun h => h)).trans h0)
  have KA := Lib.hid (Kp.alloc (w := w) (.cells cs 41))
  have OK := Lib.hid ok
  clear h0 ok
  obtain ⟨listsA, listsN, listsC, listsE, listsF, listsB⟩ := OK.out.lists
  by_cases hmx : 8 < listsN
  · have hmxi : (8 : Int) < listsN := by omega
    have f2 : (w.alloc (.cells cs 41)).cell? ⟨w.heap.size, 3, none⟩ = some (.slice listsA listsN listsC) := by rw [cell_of_row _ _ _ _ _ _ (BX.out _ (Kp.refl _ _))]; exact listsE
    clear BX OK listsE listsF hmx
    go_enter Tryz.func45, Tryz.ntmps45
    go_upto_region 1 with fail
    generalize w.alloc (.cells cs 41) = X at *
    go_wp2
    go_ret
    exact ⟨_, rfl, KA.out⟩
  have hmxi : ¬ (8 : Int) < listsN := by omega
  clear hmx
  have FE := Lib.hid listsE
  have FF := Lib.hid listsF
  have FB := Lib.hid listsB
  have hNb : (listsN : Int) ≤ 9223372036854775807 := by have := listsB; omega
  have CX : Hid (∀ y, Kp No (w.alloc (.cells cs 41)) y → y.cell? ⟨w.heap.size, 3, none⟩ = some (.slice listsA listsN listsC)) := Lib.hid (fun y q => by rw [cell_of_row _ _ _ _ _ _ (BX.out y q)]; exact FE.out)
  clear listsE listsF listsB
  go_enter Tryz.func45, Tryz.ntmps45
  go_upto_region 1 with fail
  generalize w.alloc (.cells cs 41) = X at *
  have f2 := CX.out X (Kp.refl _ _)
  go_wp2
  go_loopg [15] listsN (fun gk s x => LpI X listsN gk s x)
  case atStart => exact ⟨0, by omega, rfl, Kp.refl _ _⟩
  case round =>
    clear f2
    obtain ⟨k, hk, rfl, kp⟩ := hrel
    have HK := Lib.hid hk
    have KP := Lib.hid kp
    by_cases hlt : k < listsN
    · have hlti : (k : Int) < listsN := by omega
      have HLT := Lib.hid hlt
      obtain ⟨g, o, a0, a1, an, ac, e, hg, ⟨c0, c1⟩, h0, hf, hl, hm⟩ := pl_at (FF.out.no (KA.out.trans_no kp)) hlt
      subst e
      have n0 := heap_alloc_new wr (.cells #[.string a0, .slice a1 an ac] 145)
      have KZ := Lib.hid (kp.trans_no (Kp.alloc (w := wr) (.cells #[.string a0, .slice a1 an ac] 145)))
      have HF2 := Lib.hid (hf.no (Kp.alloc (w := wr) (.cells #[.string a0, .slice a1 an ac] 145)))
      clear hk kp hg hf
      go_upto_region 6 with fail
      clear c0 c1
      generalize wr.alloc (.cells #[.string a0, .slice a1 an ac] 145) = Z at *
      have NB : Hid (∀ y, Kp No Z y → y.heap[wr.heap.size]? = some (.cells #[.string a0, .slice a1 an ac] 145 (0, 0))) := Lib.hid (fun y q => (q.block _ (heap_lt n0) (fun h => h)).trans n0)
      have OZ := Lib.hid (OK.out.no (KA.out.trans_no KZ.out))
      obtain ⟨d0, d1⟩ := cel2 n0
      clear n0
      have C1 := Lib.hid (fun (y : World) (q : Kp No Z y) => PrefixList_any cs a0 y (OZ.out.no q))
      have CL := Lib.hid (fun (y : World) (i : Int) => checkList_any k i a0 an 16 y)
      have PH : Hid (∀ y, Kp No Z y → (fun y => y.heap[w.heap.size]? = some (.cells cs 41 (0, 0)) ∧ y.cell? ⟨wr.heap.size, 0, none⟩ = some (.string a0) ∧ y.cell? ⟨wr.heap.size, 1, none⟩ = some (.slice a1 an ac)) y) := Lib.hid (fun y q => by
        obtain ⟨e0, e1⟩ := cel2 (NB.out y q)
        exact ⟨BX.out y (KZ.out.trans_no q), e0, e1⟩)
      have S0 := Lib.hid (PH.out Z.drew Kp.drew)
      have hani : (an : Int) ≤ 9223372036854775807 := by omega
      clear d0 d1 h0 hl hm
      refine wp_region_held_drew (S := fun y => y.heap[w.heap.size]? = some (.cells cs 41 (0, 0)) ∧ y.cell? ⟨wr.heap.size, 0, none⟩ = some (.string a0) ∧ y.cell? ⟨wr.heap.size, 1, none⟩ = some (.slice a1 an ac)) (by kernel_rfl) S0.out (fun hS => ?_)
      refine tk 0 hS ?_
      refine tk 1 (v := .agg cs) hS ?_ (hy := (yields_load_rt (by rfl) _ rfl w.heap.size rfl cs OK.out.sz (fun _ h => h.1)))
      refine tk 2 hS ?_
      refine tk 3 hS ?_
      refine tk 5 hS ?_
      refine tk 6 hS ?_
      refine tk 7 hS ?_
      refine tk 8 hS ?_
      refine tk 9 hS ?_
      refine op1 4 (fun K hK => ?_)
      go_simp
      go_at_call 82
      refine (C1.out _ Kp.drew).mono ?_
      rintro e wa ⟨i, rfl, ka, _, _⟩
      have KW := Lib.hid (Kp.drew.trans_no ka)
      have SA := Lib.hid (PH.out wa KW.out)
      clear ka
      go_wp2_with fail
      refine hK.out _ _ (by exact SA.out) (fun hHeld => ?_)
      clear hK K hS
      have hS := hHeld
      clear hHeld
      try simp only [Act.put, List.setIfInBounds_toArray, List.set_cons_zero, List.set_cons_succ]
      refine op1 10 (fun K hK => ?_)
      go_simp
      go_at_call 81
      refine (CL.out _ _).mono ?_
      rintro e wb ⟨q, rfl, rfl, hq⟩
      go_wp2_with fail
      refine hK.out _ _ (by exact SA.out) (fun hHeld => ?_)
      clear hK K hS
      have hS := hHeld
      clear hHeld
      try simp only [Act.put, List.setIfInBounds_toArray, List.set_cons_zero, List.set_cons_succ]
      refine tk 11 hS ?_
      refine wpAnyH_done (by kernel_rfl) ?_ _
      clear PH S0 C1 CL hq hS SA
      obtain ⟨d0, d1⟩ := cel2 (NB.out _ KW.out)
      by_cases hq0 : q = 0
      · subst hq0
        go_wp2
        generalize wr = W1 at *
        go_loopg [37] an (fun gk s x => LpI wa an gk s x)
        case atStart => exact ⟨0, by omega, rfl, Kp.refl _ _⟩
        case round =>
          clear d0 d1
          obtain ⟨j, hj, rfl, kj⟩ := hrel
          have HJ := Lib.hid hj
          by_cases hltj : j < an
          · have hltji : (j : Int) < an := by omega
            have HLTJ := Lib.hid hltj
            obtain ⟨g', o', b0, b1, b2, b3, b4, e', hg', ⟨e0, e1, e2, e3, e4⟩, m1, m2, m3, m4⟩ := pr_at (HF2.out.no (KW.out.trans_no kj)) hltj
            subst e'
            have n1 := heap_alloc_new wr (.cells #[.bool b0, .int .u32 (b1 : Int), .int .i64 b2, .int .i64 b3, .int .i64 b4] 148)
            have KV := Lib.hid (kj.trans_no (Kp.alloc (w := wr) (.cells #[.bool b0, .int .u32 (b1 : Int), .int .i64 b2, .int .i64 b3, .int .i64 b4] 148)))
            clear hj kj hg' m1 m2 m3 m4
            go_upto_region 12 with fail
            clear e0 e1 e2 e3 e4
            generalize wr.alloc (.cells #[.bool b0, .int .u32 (b1 : Int), .int .i64 b2, .int .i64 b3, .int .i64 b4] 148) = V at *
            obtain ⟨x0, x1, x2, x3, x4⟩ := cel5 n1
            go_wp2_with fail
            refine (Valid_ok _ _ _).mono ?_
            rintro e y ⟨rfl, ky⟩
            have KY := Lib.hid (KV.out.trans_no ky)
            have KYY := Lib.hid (KA.out.trans_no (KZ.out.trans_no (KW.out.trans_no (KV.out.trans_no ky))))
            clear x0 x1 x2 x3 x4
            obtain ⟨x0, x1, x2, x3, x4⟩ := cel5 ((ky.block _ (heap_lt n1) (fun h => h)).trans n1)
            clear ky n1
            generalize pvB b1 b2 = q2
            cases q2
            · go_wp2
              go_ret
              exact ⟨_, rfl, KYY.out⟩
            · go_wp2
              all_goals first
                | (go_ret; exact ⟨_, rfl, KYY.out⟩)
                | (go_roundg (an - (j + 1)); (case measure => (have := HJ.out; have := HLTJ.out; omega)); (case rel => exact ⟨j + 1, by have := HJ.out; have := HLTJ.out; omega, by go_num, KY.out⟩))
          · obtain rfl : j = an := by omega
            have hgej : ¬ (j : Int) < j := by omega
            have KE := Lib.hid (KZ.out.trans_no (KW.out.trans_no kj))
            clear hj kj hltj
            go_wp2
            go_roundg (listsN - (k + 1))
            case measure => have := HK.out; have := HLT.out; omega
            case rel => exact ⟨k + 1, by have := HK.out; have := HLT.out; omega, by go_num, KE.out⟩
      · go_wp2
        go_ret
        exact ⟨_, rfl, KA.out.trans_no (KZ.out.trans_no KW.out)⟩

    · obtain rfl : k = listsN := by omega
      have hge : ¬ (k : Int) < k := by omega
      clear hk kp hlt
      go_wp2
      go_ret
      exact ⟨_, rfl, KA.out.trans_no KP.out⟩
set_option maxRecDepth 1000000 in
set_option maxHeartbeats 8000000 in
theorem checkACLs_any (cs : Array Value) (w : World) (ok : RtC w cs) : Calls Tryz.prog 47 #[.agg cs] w (AnyE w) := by
  have h0 := heap_alloc_new w (.cells cs 41)
  have BX : Hid (∀ y, Kp No (w.alloc (.cells cs 41)) y → y.heap[w.heap.size]? = some (.cells cs 41 (0, 0))) := Lib.hid (fun y k => (k.block _ (heap_lt h0) (fun h => h)).trans h0)
  have KA := Lib.hid (Kp.alloc (w := w) (.cells cs 41))
  have OK := Lib.hid ok
  clear h0 ok
  obtain ⟨aclsA, aclsN, aclsC, aclsE, aclsF, aclsB⟩ := OK.out.acls
  by_cases hmx : 8 < aclsN
  · have hmxi : (8 : Int) < aclsN := by omega
    have f2 : (w.alloc (.cells cs 41)).cell? ⟨w.heap.size, 5, none⟩ = some (.slice aclsA aclsN aclsC) := by rw [cell_of_row _ _ _ _ _ _ (BX.out _ (Kp.refl _ _))]; exact aclsE
    clear BX OK aclsE aclsF hmx
    go_enter Tryz.func47, Tryz.ntmps47
    go_upto_region 1 with fail
    generalize w.alloc (.cells cs 41) = X at *
    go_wp2
    go_ret
    exact ⟨_, rfl, KA.out⟩
  have hmxi : ¬ (8 : Int) < aclsN := by omega
  clear hmx
  have FE := Lib.hid aclsE
  have FF := Lib.hid aclsF
  have FB := Lib.hid aclsB
  have hNb : (aclsN : Int) ≤ 9223372036854775807 := by have := aclsB; omega
  have CX : Hid (∀ y, Kp No (w.alloc (.cells cs 41)) y → y.cell? ⟨w.heap.size, 5, none⟩ = some (.slice aclsA aclsN aclsC)) := Lib.hid (fun y q => by rw [cell_of_row _ _ _ _ _ _ (BX.out y q)]; exact FE.out)
  clear aclsE aclsF aclsB
  go_enter Tryz.func47, Tryz.ntmps47
  go_upto_region 1 with fail
  generalize w.alloc (.cells cs 41) = X at *
  have f2 := CX.out X (Kp.refl _ _)
  go_wp2
  go_loopg [15] aclsN (fun gk s x => LpI X aclsN gk s x)
  case atStart => exact ⟨0, by omega, rfl, Kp.refl _ _⟩
  case round =>
    clear f2
    obtain ⟨k, hk, rfl, kp⟩ := hrel
    have HK := Lib.hid hk
    have KP := Lib.hid kp
    by_cases hlt : k < aclsN
    · have hlti : (k : Int) < aclsN := by omega
      have HLT := Lib.hid hlt
      obtain ⟨g, o, a0, a1, an, ac, e, hg, ⟨c0, c1⟩, h0, hf, hl, hm⟩ := ac_at (FF.out.no (KA.out.trans_no kp)) hlt
      subst e
      have n0 := heap_alloc_new wr (.cells #[.string a0, .slice a1 an ac] 76)
      have KZ := Lib.hid (kp.trans_no (Kp.alloc (w := wr) (.cells #[.string a0, .slice a1 an ac] 76)))
      have HF2 := Lib.hid (hf.no (Kp.alloc (w := wr) (.cells #[.string a0, .slice a1 an ac] 76)))
      clear hk kp hg hf
      go_upto_region 6 with fail
      clear c0 c1
      generalize wr.alloc (.cells #[.string a0, .slice a1 an ac] 76) = Z at *
      have NB : Hid (∀ y, Kp No Z y → y.heap[wr.heap.size]? = some (.cells #[.string a0, .slice a1 an ac] 76 (0, 0))) := Lib.hid (fun y q => (q.block _ (heap_lt n0) (fun h => h)).trans n0)
      have OZ := Lib.hid (OK.out.no (KA.out.trans_no KZ.out))
      obtain ⟨d0, d1⟩ := cel2 n0
      clear n0
      have C1 := Lib.hid (fun (y : World) (q : Kp No Z y) => ACL_any cs a0 y (OZ.out.no q))
      have CL := Lib.hid (fun (y : World) (i : Int) => checkList_any k i a0 an 16 y)
      have PH : Hid (∀ y, Kp No Z y → (fun y => y.heap[w.heap.size]? = some (.cells cs 41 (0, 0)) ∧ y.cell? ⟨wr.heap.size, 0, none⟩ = some (.string a0) ∧ y.cell? ⟨wr.heap.size, 1, none⟩ = some (.slice a1 an ac)) y) := Lib.hid (fun y q => by
        obtain ⟨e0, e1⟩ := cel2 (NB.out y q)
        exact ⟨BX.out y (KZ.out.trans_no q), e0, e1⟩)
      have S0 := Lib.hid (PH.out Z.drew Kp.drew)
      have hani : (an : Int) ≤ 9223372036854775807 := by omega
      clear d0 d1 h0 hl hm
      refine wp_region_held_drew (S := fun y => y.heap[w.heap.size]? = some (.cells cs 41 (0, 0)) ∧ y.cell? ⟨wr.heap.size, 0, none⟩ = some (.string a0) ∧ y.cell? ⟨wr.heap.size, 1, none⟩ = some (.slice a1 an ac)) (by kernel_rfl) S0.out (fun hS => ?_)
      refine tk 0 hS ?_
      refine tk 1 (v := .agg cs) hS ?_ (hy := (yields_load_rt (by rfl) _ rfl w.heap.size rfl cs OK.out.sz (fun _ h => h.1)))
      refine tk 2 hS ?_
      refine tk 3 hS ?_
      refine tk 5 hS ?_
      refine tk 6 hS ?_
      refine tk 7 hS ?_
      refine tk 8 hS ?_
      refine tk 9 hS ?_
      refine op1 4 (fun K hK => ?_)
      go_simp
      go_at_call 65
      refine (C1.out _ Kp.drew).mono ?_
      rintro e wa ⟨i, rfl, ka, _, _⟩
      have KW := Lib.hid (Kp.drew.trans_no ka)
      have SA := Lib.hid (PH.out wa KW.out)
      clear ka
      go_wp2_with fail
      refine hK.out _ _ (by exact SA.out) (fun hHeld => ?_)
      clear hK K hS
      have hS := hHeld
      clear hHeld
      try simp only [Act.put, List.setIfInBounds_toArray, List.set_cons_zero, List.set_cons_succ]
      refine op1 10 (fun K hK => ?_)
      go_simp
      go_at_call 81
      refine (CL.out _ _).mono ?_
      rintro e wb ⟨q, rfl, rfl, hq⟩
      go_wp2_with fail
      refine hK.out _ _ (by exact SA.out) (fun hHeld => ?_)
      clear hK K hS
      have hS := hHeld
      clear hHeld
      try simp only [Act.put, List.setIfInBounds_toArray, List.set_cons_zero, List.set_cons_succ]
      refine tk 11 hS ?_
      refine wpAnyH_done (by kernel_rfl) ?_ _
      clear PH S0 C1 CL hq hS SA
      obtain ⟨d0, d1⟩ := cel2 (NB.out _ KW.out)
      by_cases hq0 : q = 0
      · subst hq0
        go_wp2
        generalize wr = W1 at *
        go_loopg [37] an (fun gk s x => LpI wa an gk s x)
        case atStart => exact ⟨0, by omega, rfl, Kp.refl _ _⟩
        case round =>
          clear d0 d1
          obtain ⟨j, hj, rfl, kj⟩ := hrel
          have HJ := Lib.hid hj
          by_cases hltj : j < an
          · have hltji : (j : Int) < an := by omega
            have HLTJ := Lib.hid hltj
            obtain ⟨g', o', b0, b1, b2, b3, b4, b5, b6, b7, b8, b9, e', hg', ⟨e0, e1, e2, e3, e4, e5, e6, e7, e8, e9⟩, m1, m2, m3, m4, m5, m6, m7, m8, m9⟩ := ru_at (HF2.out.no (KW.out.trans_no kj)) hltj
            subst e'
            have n1 := heap_alloc_new wr (.cells #[.bool b0, .int .i64 b1, .int .u32 (b2 : Int), .int .u32 (b3 : Int), .int .u32 (b4 : Int), .int .u32 (b5 : Int), .int .i64 b6, .int .i64 b7, .int .i64 b8, .int .i64 b9] 128)
            have KV := Lib.hid (kj.trans_no (Kp.alloc (w := wr) (.cells #[.bool b0, .int .i64 b1, .int .u32 (b2 : Int), .int .u32 (b3 : Int), .int .u32 (b4 : Int), .int .u32 (b5 : Int), .int .i64 b6, .int .i64 b7, .int .i64 b8, .int .i64 b9] 128)))
            clear hj kj hg' m1 m2 m3 m4 m5 m6 m7 m8 m9
            go_upto_region 12 with fail
            clear e0 e1 e2 e3 e4 e5 e6 e7 e8 e9
            generalize wr.alloc (.cells #[.bool b0, .int .i64 b1, .int .u32 (b2 : Int), .int .u32 (b3 : Int), .int .u32 (b4 : Int), .int .u32 (b5 : Int), .int .i64 b6, .int .i64 b7, .int .i64 b8, .int .i64 b9] 128) = V at *
            obtain ⟨x0, x1, x2, x3, x4, x5, x6, x7, x8, x9⟩ := cel10 n1
            go_wp2_with fail
            refine (rightRule_any _ _ _ _ _ _ _ _ _ _ _).mono ?_
            rintro e y ⟨q2, rfl, ky, _⟩
            have KY := Lib.hid (KV.out.trans_no ky)
            have KYY := Lib.hid (KA.out.trans_no (KZ.out.trans_no (KW.out.trans_no (KV.out.trans_no ky))))
            clear x0 x1 x2 x3 x4 x5 x6 x7 x8 x9 ky n1
            cases q2
            · go_wp2
              go_ret
              exact ⟨_, rfl, KYY.out⟩
            · go_wp2
              (go_roundg (an - (j + 1)); (case measure => (have := HJ.out; have := HLTJ.out; omega)); (case rel => exact ⟨j + 1, by have := HJ.out; have := HLTJ.out; omega, by go_num, KY.out⟩))
          · obtain rfl : j = an := by omega
            have hgej : ¬ (j : Int) < j := by omega
            have KE := Lib.hid (KZ.out.trans_no (KW.out.trans_no kj))
            clear hj kj hltj
            go_wp2
            go_roundg (aclsN - (k + 1))
            case measure => have := HK.out; have := HLT.out; omega
            case rel => exact ⟨k + 1, by have := HK.out; have := HLT.out; omega, by go_num, KE.out⟩
      · go_wp2
        go_ret
        exact ⟨_, rfl, KA.out.trans_no (KZ.out.trans_no KW.out)⟩

    · obtain rfl : k = aclsN := by omega
      have hge : ¬ (k : Int) < k := by omega
      clear hk kp hlt
      go_wp2
      go_ret
      exact ⟨_, rfl, KA.out.trans_no KP.out⟩
set_option maxRecDepth 1000000 in
set_option maxHeartbeats 8000000 in
theorem checkRouteMaps_any (cs : Array Value) (w : World) (ok : RtC w cs) : Calls Tryz.prog 46 #[.agg cs] w (AnyE w) := by
  have h0 := heap_alloc_new w (.cells cs 41)
  have BX : Hid (∀ y, Kp No (w.alloc (.cells cs 41)) y → y.heap[w.heap.size]? = some (.cells cs 41 (0, 0))) := Lib.hid (fun y k => (k.block _ (heap_lt h0) (fun h => h)).trans h0)
  have KA := Lib.hid (Kp.alloc (w := w) (.cells cs 41))
  have OK := Lib.hid ok
  clear h0 ok
  obtain ⟨mapsA, mapsN, mapsC, mapsE, mapsF, mapsB⟩ := OK.out.maps
  by_cases hmx : 8 < mapsN
  · have hmxi : (8 : Int) < mapsN := by omega
    have f2 : (w.alloc (.cells cs 41)).cell? ⟨w.heap.size, 4, none⟩ = some (.slice mapsA mapsN mapsC) := by rw [cell_of_row _ _ _ _ _ _ (BX.out _ (Kp.refl _ _))]; exact mapsE
    clear BX OK mapsE mapsF hmx
    go_enter Tryz.func46, Tryz.ntmps46
    go_upto_region 1 with fail
    generalize w.alloc (.cells cs 41) = X at *
    go_wp2
    go_ret
    exact ⟨_, rfl, KA.out⟩
  have hmxi : ¬ (8 : Int) < mapsN := by omega
  clear hmx
  have FE := Lib.hid mapsE
  have FF := Lib.hid mapsF
  have FB := Lib.hid mapsB
  have hNb : (mapsN : Int) ≤ 9223372036854775807 := by have := mapsB; omega
  have CX : Hid (∀ y, Kp No (w.alloc (.cells cs 41)) y → y.cell? ⟨w.heap.size, 4, none⟩ = some (.slice mapsA mapsN mapsC)) := Lib.hid (fun y q => by rw [cell_of_row _ _ _ _ _ _ (BX.out y q)]; exact FE.out)
  clear mapsE mapsF mapsB
  go_enter Tryz.func46, Tryz.ntmps46
  go_upto_region 1 with fail
  generalize w.alloc (.cells cs 41) = X at *
  have f2 := CX.out X (Kp.refl _ _)
  go_wp2
  go_loopg [15] mapsN (fun gk s x => LpI X mapsN gk s x)
  case atStart => exact ⟨0, by omega, rfl, Kp.refl _ _⟩
  case round =>
    clear f2
    obtain ⟨k, hk, rfl, kp⟩ := hrel
    have HK := Lib.hid hk
    have KP := Lib.hid kp
    by_cases hlt : k < mapsN
    · have hlti : (k : Int) < mapsN := by omega
      have HLT := Lib.hid hlt
      obtain ⟨g, o, a0, a1, an, ac, e, hg, ⟨c0, c1⟩, h0, hf, hl, hm⟩ := rm_at (FF.out.no (KA.out.trans_no kp)) hlt
      subst e
      have n0 := heap_alloc_new wr (.cells #[.string a0, .slice a1 an ac] 151)
      have KZ := Lib.hid (kp.trans_no (Kp.alloc (w := wr) (.cells #[.string a0, .slice a1 an ac] 151)))
      have HF2 := Lib.hid (hf.no (Kp.alloc (w := wr) (.cells #[.string a0, .slice a1 an ac] 151)))
      clear hk kp hg hf
      go_upto_region 6 with fail
      clear c0 c1
      generalize wr.alloc (.cells #[.string a0, .slice a1 an ac] 151) = Z at *
      have NB : Hid (∀ y, Kp No Z y → y.heap[wr.heap.size]? = some (.cells #[.string a0, .slice a1 an ac] 151 (0, 0))) := Lib.hid (fun y q => (q.block _ (heap_lt n0) (fun h => h)).trans n0)
      have OZ := Lib.hid (OK.out.no (KA.out.trans_no KZ.out))
      obtain ⟨d0, d1⟩ := cel2 n0
      clear n0
      have C1 := Lib.hid (fun (y : World) (q : Kp No Z y) => RouteMap_any cs a0 y (OZ.out.no q))
      have CL := Lib.hid (fun (y : World) (i : Int) => checkList_any k i a0 an 8 y)
      have PH : Hid (∀ y, Kp No Z y → (fun y => y.heap[w.heap.size]? = some (.cells cs 41 (0, 0)) ∧ y.cell? ⟨wr.heap.size, 0, none⟩ = some (.string a0) ∧ y.cell? ⟨wr.heap.size, 1, none⟩ = some (.slice a1 an ac)) y) := Lib.hid (fun y q => by
        obtain ⟨e0, e1⟩ := cel2 (NB.out y q)
        exact ⟨BX.out y (KZ.out.trans_no q), e0, e1⟩)
      have S0 := Lib.hid (PH.out Z.drew Kp.drew)
      have hani : (an : Int) ≤ 9223372036854775807 := by omega
      clear d0 d1 h0 hl hm
      refine wp_region_held_drew (S := fun y => y.heap[w.heap.size]? = some (.cells cs 41 (0, 0)) ∧ y.cell? ⟨wr.heap.size, 0, none⟩ = some (.string a0) ∧ y.cell? ⟨wr.heap.size, 1, none⟩ = some (.slice a1 an ac)) (by kernel_rfl) S0.out (fun hS => ?_)
      refine tk 0 hS ?_
      refine tk 1 (v := .agg cs) hS ?_ (hy := (yields_load_rt (by rfl) _ rfl w.heap.size rfl cs OK.out.sz (fun _ h => h.1)))
      refine tk 2 hS ?_
      refine tk 3 hS ?_
      refine tk 5 hS ?_
      refine tk 6 hS ?_
      refine tk 7 hS ?_
      refine tk 8 hS ?_
      refine tk 9 hS ?_
      refine op1 4 (fun K hK => ?_)
      go_simp
      go_at_call 83
      refine (C1.out _ Kp.drew).mono ?_
      rintro e wa ⟨i, rfl, ka, _, _⟩
      have KW := Lib.hid (Kp.drew.trans_no ka)
      have SA := Lib.hid (PH.out wa KW.out)
      clear ka
      go_wp2_with fail
      refine hK.out _ _ (by exact SA.out) (fun hHeld => ?_)
      clear hK K hS
      have hS := hHeld
      clear hHeld
      try simp only [Act.put, List.setIfInBounds_toArray, List.set_cons_zero, List.set_cons_succ]
      refine op1 10 (fun K hK => ?_)
      go_simp
      go_at_call 81
      refine (CL.out _ _).mono ?_
      rintro e wb ⟨q, rfl, rfl, hq⟩
      go_wp2_with fail
      refine hK.out _ _ (by exact SA.out) (fun hHeld => ?_)
      clear hK K hS
      have hS := hHeld
      clear hHeld
      try simp only [Act.put, List.setIfInBounds_toArray, List.set_cons_zero, List.set_cons_succ]
      refine tk 11 hS ?_
      refine wpAnyH_done (by kernel_rfl) ?_ _
      clear PH S0 C1 CL hq hS SA
      obtain ⟨d0, d1⟩ := cel2 (NB.out _ KW.out)
      by_cases hq0 : q = 0
      · subst hq0
        go_wp2
        generalize wr = W1 at *
        go_loopg [37] an (fun gk s x => LpI wa an gk s x)
        case atStart => exact ⟨0, by omega, rfl, Kp.refl _ _⟩
        case round =>
          clear d0 d1
          obtain ⟨j, hj, rfl, kj⟩ := hrel
          have HJ := Lib.hid hj
          by_cases hltj : j < an
          · have hltji : (j : Int) < an := by omega
            have HLTJ := Lib.hid hltj
            obtain ⟨g', o', b0, b1, b2, b3, b4, b5, b6, e', hg', ⟨e0, e1, e2, e3, e4, e5, e6⟩, m1, m2, m3, m4, m5, m6⟩ := cl_at (HF2.out.no (KW.out.trans_no kj)) hltj
            subst e'
            have n1 := heap_alloc_new wr (.cells #[.bool b0, .string b1, .int .i64 b2, .int .i64 b3, .int .i64 b4, .int .i64 b5, .int .i64 b6] 153)
            have KV := Lib.hid (kj.trans_no (Kp.alloc (w := wr) (.cells #[.bool b0, .string b1, .int .i64 b2, .int .i64 b3, .int .i64 b4, .int .i64 b5, .int .i64 b6] 153)))
            clear hj kj hg' m1 m2 m3 m4 m5 m6
            go_upto_region 12 with fail
            clear e0 e1 e2 e3 e4 e5 e6
            generalize wr.alloc (.cells #[.bool b0, .string b1, .int .i64 b2, .int .i64 b3, .int .i64 b4, .int .i64 b5, .int .i64 b6] 153) = V at *
            obtain ⟨x0, x1, x2, x3, x4, x5, x6⟩ := cel7 n1
            have PL := Lib.hid (fun (y : World) (q : Kp No Z y) => PrefixList_any cs b1 y (OZ.out.no q))
            rcases str_cases b1 with ⟨b9, b9'⟩ | ⟨b9, b9'⟩
            · go_wp2_with fail
              refine (rightClause_any _ _ _ _ _ _ _ _).mono ?_
              rintro e y ⟨q2, rfl, ky⟩
              have KY := Lib.hid (KV.out.trans_no ky)
              have KYY := Lib.hid (KA.out.trans_no (KZ.out.trans_no (KW.out.trans_no KY.out)))
              clear x0 x1 x2 x3 x4 x5 x6 ky n1
              cases q2
              · go_wp2
                go_ret
                exact ⟨_, rfl, KYY.out⟩
              · go_wp2
                (go_roundg (an - (j + 1)); (case measure => (have := HJ.out; have := HLTJ.out; omega)); (case rel => exact ⟨j + 1, by have := HJ.out; have := HLTJ.out; omega, by go_num, KY.out⟩))
            · go_wp2_with (first | (refine wpList_load_rt rfl _ rfl w.heap.size rfl cs OK.out.sz (BX.out _ (KZ.out.trans_no (KW.out.trans_no KV.out))) ?_))
              refine (PL.out _ (KW.out.trans_no KV.out)).mono ?_
              rintro e z ⟨i2, rfl, kz, _, _⟩
              have K3 := Lib.hid (KV.out.trans_no kz)
              clear x0 x1 x2 x3 x4 x5 x6
              obtain ⟨x0, x1, x2, x3, x4, x5, x6⟩ := cel7 ((kz.block _ (heap_lt n1) (fun h => h)).trans n1)
              clear kz
              by_cases hi2 : i2 < 0
              · go_wp2
                go_ret
                exact ⟨_, rfl, KA.out.trans_no (KZ.out.trans_no (KW.out.trans_no K3.out))⟩
              · go_wp2_with fail
                refine (rightClause_any _ _ _ _ _ _ _ _).mono ?_
                rintro e y ⟨q2, rfl, ky⟩
                have KY := Lib.hid (K3.out.trans_no ky)
                have KYY := Lib.hid (KA.out.trans_no (KZ.out.trans_no (KW.out.trans_no KY.out)))
                clear x0 x1 x2 x3 x4 x5 x6 ky n1
                cases q2
                · go_wp2
                  go_ret
                  exact ⟨_, rfl, KYY.out⟩
                · go_wp2
                  (go_roundg (an - (j + 1)); (case measure => (have := HJ.out; have := HLTJ.out; omega)); (case rel => exact ⟨j + 1, by have := HJ.out; have := HLTJ.out; omega, by go_num, KY.out⟩))
          · obtain rfl : j = an := by omega
            have hgej : ¬ (j : Int) < j := by omega
            have KE := Lib.hid (KZ.out.trans_no (KW.out.trans_no kj))
            clear hj kj hltj
            go_wp2
            go_roundg (mapsN - (k + 1))
            case measure => have := HK.out; have := HLT.out; omega
            case rel => exact ⟨k + 1, by have := HK.out; have := HLT.out; omega, by go_num, KE.out⟩
      · go_wp2
        go_ret
        exact ⟨_, rfl, KA.out.trans_no (KZ.out.trans_no KW.out)⟩

    · obtain rfl : k = mapsN := by omega
      have hge : ¬ (k : Int) < k := by omega
      clear hk kp hlt
      go_wp2
      go_ret
      exact ⟨_, rfl, KA.out.trans_no KP.out⟩

end Go.Proofs.YtdgnbbmgcgfibaaGreatDoor

namespace Go.Proofs.YtdgnbbmgcgfibaaGreatDoor
open Go.RowKit

set_option maxRecDepth 1000000 in
set_option maxHeartbeats 8000000 in
theorem checkInterfaces_any (cs : Array Value) (w : World) (ok : RtC w cs) : Calls Tryz.prog 44 #[.agg cs] w (AnyE w) := by
  have h0 := heap_alloc_new w (.cells cs 41)
  have BX : Hid (∀ y, Kp No (w.alloc (.cells cs 41)) y → y.heap[w.heap.size]? = some (.cells cs 41 (0, 0))) := Lib.hid (fun y k => (k.block _ (heap_lt h0) (fun h => h)).trans h0)
  have KA := Lib.hid (Kp.alloc (w := w) (.cells cs 41))
  have OK := Lib.hid ok
  clear h0 ok
  obtain ⟨ifsA, ifsN, ifsC, ifsE, ifsF, ifsB⟩ := OK.out.ifs
  by_cases hmx : 8 < ifsN
  · have hmxi : (8 : Int) < ifsN := by omega
    have f2 : (w.alloc (.cells cs 41)).cell? ⟨w.heap.size, 2, none⟩ = some (.slice ifsA ifsN ifsC) := by rw [cell_of_row _ _ _ _ _ _ (BX.out _ (Kp.refl _ _))]; exact ifsE
    clear BX OK ifsE ifsF hmx
    go_enter Tryz.func44, Tryz.ntmps44
    go_upto_region 1 with fail
    generalize w.alloc (.cells cs 41) = X at *
    go_wp2
    go_ret
    exact ⟨_, rfl, KA.out⟩
  have hmxi : ¬ (8 : Int) < ifsN := by omega
  clear hmx
  have FE := Lib.hid ifsE
  have FF := Lib.hid ifsF
  have hcmi : (ifsC : Int) ≤ 9223372036854775807 := by have := ifsB; omega
  have hncap : (ifsN : Int) ≤ ifsC := by have := ifsB; omega
  have FB := Lib.hid ifsB
  have hNb : (ifsN : Int) ≤ 9223372036854775807 := by have := ifsB; omega
  have CX : Hid (∀ y, Kp No (w.alloc (.cells cs 41)) y → y.cell? ⟨w.heap.size, 2, none⟩ = some (.slice ifsA ifsN ifsC)) := Lib.hid (fun y q => by rw [cell_of_row _ _ _ _ _ _ (BX.out y q)]; exact FE.out)
  clear ifsE ifsF ifsB
  go_enter Tryz.func44, Tryz.ntmps44
  go_upto_region 1 with fail
  generalize w.alloc (.cells cs 41) = X at *
  have f2 := CX.out X (Kp.refl _ _)
  go_wp2
  go_loopg [14] ifsN (fun gk s x => LpI X ifsN gk s x)
  case atStart => exact ⟨0, by omega, rfl, Kp.refl _ _⟩
  case round =>
    clear f2
    obtain ⟨k, hk, rfl, kp⟩ := hrel
    have HK := Lib.hid hk
    have KP := Lib.hid kp
    by_cases hlt : k < ifsN
    · have hlti : (k : Int) < ifsN := by omega
      have hkc : (k : Int) ≤ ifsC := by omega
      have hkl : (k : Int) ≤ ifsN := by omega
      have HLT := Lib.hid hlt
      obtain ⟨g, o, a0, a1, a2, a3, a4, a5, a6, a7, a8, a9, a10, a11, e, hg, ⟨c0, c1, c2, c3, c4, c5, c6, c7, c8, c9, c10, c11⟩, h0, h1, h2, h3, h6, h7, h9, h10, h11⟩ := if_at (FF.out.no (KA.out.trans_no kp)) hlt
      subst e
      have n0 := heap_alloc_new wr (.cells #[.string a0, .int .u32 (a1 : Int), .int .i64 a2, .int .i64 a3, .bool a4, .bool a5, .int .i64 a6, .int .i64 a7, .bool a8, .string a9, .string a10, .int .i64 a11] 139)
      have KZ := Lib.hid (kp.trans_no (Kp.alloc (w := wr) (.cells #[.string a0, .int .u32 (a1 : Int), .int .i64 a2, .int .i64 a3, .bool a4, .bool a5, .int .i64 a6, .int .i64 a7, .bool a8, .string a9, .string a10, .int .i64 a11] 139)))
      clear hk kp hg
      go_upto_region 6 with fail
      clear c0 c1 c2 c3 c4 c5 c6 c7 c8 c9 c10 c11
      generalize wr.alloc (.cells #[.string a0, .int .u32 (a1 : Int), .int .i64 a2, .int .i64 a3, .bool a4, .bool a5, .int .i64 a6, .int .i64 a7, .bool a8, .string a9, .string a10, .int .i64 a11] 139) = Z at *
      have NB : Hid (∀ y, Kp No Z y → y.heap[wr.heap.size]? = some (.cells #[.string a0, .int .u32 (a1 : Int), .int .i64 a2, .int .i64 a3, .bool a4, .bool a5, .int .i64 a6, .int .i64 a7, .bool a8, .string a9, .string a10, .int .i64 a11] 139 (0, 0))) := Lib.hid (fun y q => (q.block _ (heap_lt n0) (fun h => h)).trans n0)
      have OZ := Lib.hid (OK.out.no (KA.out.trans_no KZ.out))
      obtain ⟨d0, d1, d2, d3, d4, d5, d6, d7, d8, d9, d10, d11⟩ := cel12 n0
      clear n0
      clear hncap
      have HA1 := Lib.hid h1
      clear h0 h1 h2 h3 h6 h7 h9 h10 h11
      have NM := Lib.hid (fun (y : World) => Name_any a0 y)
      have C1 := Lib.hid (fun (y : World) (q : Kp No Z y) => Interface_any cs a0 y (OZ.out.no q))
      have RI := Lib.hid (fun (y : World) => rightInterface_any a0 a1 a2 a3 a4 a5 a6 a7 a8 a9 a10 a11 y)
      generalize wr = W1 at *
      go_wp2_with fail
      refine (NM.out _).mono ?_
      rintro e y ⟨q1, rfl, rfl⟩
      cases q1
      · go_wp2
        go_ret
        exact ⟨_, rfl, KA.out.trans_no KZ.out⟩
      go_wp2_with (first | (refine wpList_load_rt rfl _ rfl w.heap.size rfl cs OK.out.sz (BX.out _ KZ.out) ?_))
      refine (C1.out _ (Kp.refl No Z)).mono ?_
      rintro e y ⟨i, rfl, ky, _, _⟩
      have KY := Lib.hid ky
      clear d0 d1 d2 d3 d4 d5 d6 d7 d8 d9 d10 d11 ky
      obtain ⟨d0, d1, d2, d3, d4, d5, d6, d7, d8, d9, d10, d11⟩ := cel12 (NB.out y KY.out)
      by_cases hik : i < (k : Int)
      · go_wp2
        go_ret
        exact ⟨_, rfl, KA.out.trans_no (KZ.out.trans_no KY.out)⟩
      go_wp2_with fail
      refine (RI.out _).mono ?_
      rintro e z ⟨q2, rfl, kz⟩
      have KQ := Lib.hid (KY.out.trans_no kz)
      clear d0 d1 d2 d3 d4 d5 d6 d7 d8 d9 d10 d11 kz
      obtain ⟨d0, d1, d2, d3, d4, d5, d6, d7, d8, d9, d10, d11⟩ := cel12 (NB.out z KQ.out)
      cases q2
      · go_wp2
        go_ret
        exact ⟨_, rfl, KA.out.trans_no (KZ.out.trans_no KQ.out)⟩
      have f20 := CX.out _ (KZ.out.trans_no KQ.out)
      clear NM C1 RI KY
      go_wp2
      go_loopg [37] k (fun gk s x => LpI z k gk s x)
      case atStart => exact ⟨0, by omega, rfl, Kp.refl _ _⟩
      case round =>
        clear d0 d1 d2 d3 d4 d5 d6 d7 d8 d9 d10 d11 f20
        obtain ⟨j, hj, rfl, kj⟩ := hrel
        have HJ := Lib.hid hj
        by_cases hltj : j < k
        · have hltji : (j : Int) < k := by omega
          have HLTJ := Lib.hid hltj
          obtain ⟨g', o', b0, b1, b2, b3, b4, b5, b6, b7, b8, b9, b10, b11, e', hg', ⟨e0, e1, e2, e3, e4, e5, e6, e7, e8, e9, e10, e11⟩, m0, m1, m2, m3, m6, m7, m9, m10, m11⟩ := if_at (i := j) (FF.out.no (KA.out.trans_no (KZ.out.trans_no (KQ.out.trans_no kj)))) (by have := HLT.out; omega)
          cases e'
          have n1 := heap_alloc_new wr (.cells #[.string b0, .int .u32 (b1 : Int), .int .i64 b2, .int .i64 b3, .bool b4, .bool b5, .int .i64 b6, .int .i64 b7, .bool b8, .string b9, .string b10, .int .i64 b11] 139)
          have KV := Lib.hid (kj.trans_no (Kp.alloc (w := wr) (.cells #[.string b0, .int .u32 (b1 : Int), .int .i64 b2, .int .i64 b3, .bool b4, .bool b5, .int .i64 b6, .int .i64 b7, .bool b8, .string b9, .string b10, .int .i64 b11] 139)))
          have HB1 := Lib.hid m1
          clear hj kj hg' m0 m1 m2 m3 m6 m7 m9 m10 m11
          go_upto_region 15 with fail
          clear e0 e1 e2 e3 e4 e5 e6 e7 e8 e9 e10 e11
          generalize wr.alloc (.cells #[.string b0, .int .u32 (b1 : Int), .int .i64 b2, .int .i64 b3, .bool b4, .bool b5, .int .i64 b6, .int .i64 b7, .bool b8, .string b9, .string b10, .int .i64 b11] 139) = V at *
          have PH : Hid (∀ y, Kp No V y → (fun y => y.cell? ⟨W1.heap.size, 1, none⟩ = some (.int .u32 (a1 : Int)) ∧ y.cell? ⟨W1.heap.size, 2, none⟩ = some (.int .i64 a2) ∧ y.cell? ⟨wr.heap.size, 1, none⟩ = some (.int .u32 (b1 : Int)) ∧ y.cell? ⟨wr.heap.size, 2, none⟩ = some (.int .i64 b2)) y) := Lib.hid (fun y q => by
            obtain ⟨_, z1, z2, _⟩ := cel12 (NB.out y (KQ.out.trans_no (KV.out.trans_no q)))
            obtain ⟨_, x1, x2, _⟩ := cel12 ((q.block _ (heap_lt n1) (fun h => h)).trans n1)
            exact ⟨z1, z2, x1, x2⟩)
          have S0 := Lib.hid (PH.out V.drew Kp.drew)
          clear n1
          by_cases ha2 : a2 = 0
          · subst ha2
            refine wp_region_held_drew (S := fun y => y.cell? ⟨W1.heap.size, 1, none⟩ = some (.int .u32 (a1 : Int)) ∧ y.cell? ⟨W1.heap.size, 2, none⟩ = some (.int .i64 0) ∧ y.cell? ⟨wr.heap.size, 1, none⟩ = some (.int .u32 (b1 : Int)) ∧ y.cell? ⟨wr.heap.size, 2, none⟩ = some (.int .i64 b2)) (by kernel_rfl) S0.out (fun hS => ?_)
            refine tk 0 hS ?_
            refine tk 1 hS ?_
            refine tk 2 hS ?_
            refine tk 3 hS ?_
            refine tk 4 hS ?_
            refine tk 5 hS ?_
            refine tk 6 hS ?_
            refine tk 7 hS ?_
            refine tk 8 hS ?_
            refine tk 9 hS ?_
            refine tk 10 hS ?_
            refine tk 11 hS ?_
            refine tk 12 hS ?_
            refine tk 13 hS ?_
            refine tk 14 hS ?_
            refine tk 15 hS ?_
            refine tk 16 hS ?_
            refine tk 17 hS ?_
            refine tk 18 hS ?_
            refine tk 19 hS ?_
            refine tk 20 hS ?_
            refine wpAnyH_done (by kernel_rfl) ?_ _
            clear hS
            go_wp2
            (go_roundg (k - (j + 1)); (case measure => (have := HJ.out; have := HLTJ.out; omega)); (case rel => exact ⟨j + 1, by have := HJ.out; have := HLTJ.out; omega, by go_num, (KV.out.trans_no Kp.drew)⟩))
          · by_cases hb2 : b2 = 0
            · subst hb2
              refine wp_region_held_drew (S := fun y => y.cell? ⟨W1.heap.size, 1, none⟩ = some (.int .u32 (a1 : Int)) ∧ y.cell? ⟨W1.heap.size, 2, none⟩ = some (.int .i64 a2) ∧ y.cell? ⟨wr.heap.size, 1, none⟩ = some (.int .u32 (b1 : Int)) ∧ y.cell? ⟨wr.heap.size, 2, none⟩ = some (.int .i64 0)) (by kernel_rfl) S0.out (fun hS => ?_)
              refine tk 0 hS ?_
              refine tk 1 hS ?_
              refine tk 2 (v := .bool true) hS ?_ (hy := (by refine Or.inl ⟨by rfl, fun w hSw => ?_⟩; (try dsimp only at hSw); go_simp; first | done | exact ha2 | simp [ha2]))
              refine tk 3 hS ?_
              refine tk 4 hS ?_
              refine tk 5 hS ?_
              refine tk 6 hS ?_
              refine tk 7 hS ?_
              refine tk 8 hS ?_
              refine tk 9 hS ?_
              refine tk 10 hS ?_
              refine tk 11 hS ?_
              refine tk 12 hS ?_
              refine tk 13 hS ?_
              refine tk 14 hS ?_
              refine tk 15 hS ?_
              refine tk 16 hS ?_
              refine tk 17 hS ?_
              refine tk 18 hS ?_
              refine tk 19 hS ?_
              refine tk 20 hS ?_
              refine wpAnyH_done (by kernel_rfl) ?_ _
              clear hS
              go_wp2
              (go_roundg (k - (j + 1)); (case measure => (have := HJ.out; have := HLTJ.out; omega)); (case rel => exact ⟨j + 1, by have := HJ.out; have := HLTJ.out; omega, by go_num, (KV.out.trans_no Kp.drew)⟩))
            · refine wp_region_held_drew (S := fun y => y.cell? ⟨W1.heap.size, 1, none⟩ = some (.int .u32 (a1 : Int)) ∧ y.cell? ⟨W1.heap.size, 2, none⟩ = some (.int .i64 a2) ∧ y.cell? ⟨wr.heap.size, 1, none⟩ = some (.int .u32 (b1 : Int)) ∧ y.cell? ⟨wr.heap.size, 2, none⟩ = some (.int .i64 b2)) (by kernel_rfl) S0.out (fun hS => ?_)
              refine tk 0 hS ?_
              refine tk 1 hS ?_
              refine tk 2 (v := .bool true) hS ?_ (hy := (by refine Or.inl ⟨by rfl, fun w hSw => ?_⟩; (try dsimp only at hSw); go_simp; first | done | exact ha2 | simp [ha2]))
              refine tk 3 hS ?_
              refine tk 4 hS ?_
              refine tk 5 hS ?_
              refine tk 6 (v := .bool true) hS ?_ (hy := (by refine Or.inl ⟨by rfl, fun w hSw => ?_⟩; (try dsimp only at hSw); go_simp; first | done | exact hb2 | simp [hb2]))
              refine tk 7 hS ?_
              refine tk 8 hS ?_
              refine tk 9 hS ?_
              refine tk 10 hS ?_
              refine tk 11 hS ?_
              refine tk 12 hS ?_
              refine tk 14 hS ?_
              refine tk 15 hS ?_
              refine tk 16 hS ?_
              refine tk 17 hS ?_
              refine op1 13 (fun K hK => ?_)
              go_simp
              go_at_call 80
              refine (Network_any a1 a2 HA1.out _).mono ?_
              rintro e wa ⟨p0, p1, rfl, hp0, ka⟩
              have KW := Lib.hid (Kp.drew.trans_no ka)
              have SA := Lib.hid (PH.out wa KW.out)
              have HP := Lib.hid hp0
              clear ka hp0
              go_wp2_with fail
              refine hK.out _ _ (by exact SA.out) (fun hHeld => ?_)
              clear hK K hS
              have hS := hHeld
              clear hHeld
              try simp only [Act.put, List.setIfInBounds_toArray, List.set_cons_zero, List.set_cons_succ]
              refine op1 18 (fun K hK => ?_)
              go_simp
              go_at_call 80
              refine (Network_any b1 b2 HB1.out _).mono ?_
              rintro e wb ⟨r0, r1, rfl, hr0, kb⟩
              have KW2 := Lib.hid (KW.out.trans_no kb)
              have SB := Lib.hid (PH.out wb KW2.out)
              have HR := Lib.hid hr0
              clear kb hr0
              go_wp2_with fail
              refine hK.out _ _ (by exact SB.out) (fun hHeld => ?_)
              clear hK K hS
              have hS := hHeld
              clear hHeld
              try simp only [Act.put, List.setIfInBounds_toArray, List.set_cons_zero, List.set_cons_succ]
              refine op1 19 (fun K hK => ?_)
              go_simp
              go_at_call 79
              refine (Overlaps_any _ _ _ _ HP.out HR.out _).mono ?_
              rintro e wc ⟨q, rfl, kc⟩
              have KW3 := Lib.hid (KW2.out.trans_no kc)
              have SC := Lib.hid (PH.out wc KW3.out)
              clear kc
              go_wp2_with fail
              refine hK.out _ _ (by exact SC.out) (fun hHeld => ?_)
              clear hK K hS
              have hS := hHeld
              clear hHeld
              try simp only [Act.put, List.setIfInBounds_toArray, List.set_cons_zero, List.set_cons_succ]
              refine tk 20 hS ?_
              refine wpAnyH_done (by kernel_rfl) ?_ _
              clear hS
              cases q
              · go_wp2
                (go_roundg (k - (j + 1)); (case measure => (have := HJ.out; have := HLTJ.out; omega)); (case rel => exact ⟨j + 1, by have := HJ.out; have := HLTJ.out; omega, by go_num, (KV.out.trans_no KW3.out)⟩))
              · go_wp2
                go_ret
                exact ⟨_, rfl, KA.out.trans_no (KZ.out.trans_no (KQ.out.trans_no (KV.out.trans_no KW3.out)))⟩
        · obtain rfl : j = k := by omega
          have hgej : ¬ (j : Int) < j := by omega
          have KE := Lib.hid (KZ.out.trans_no (KQ.out.trans_no kj))
          clear hj kj hltj
          go_wp2
          go_roundg (ifsN - (j + 1))
          case measure => have := HK.out; have := HLT.out; omega
          case rel => exact ⟨j + 1, by have := HK.out; have := HLT.out; omega, by go_num, KE.out⟩
    · obtain rfl : k = ifsN := by omega
      have hge : ¬ (k : Int) < k := by omega
      clear hk kp hlt
      go_wp2
      go_ret
      exact ⟨_, rfl, KA.out.trans_no KP.out⟩

end Go.Proofs.YtdgnbbmgcgfibaaGreatDoor

namespace Go.Proofs.YtdgnbbmgcgfibaaGreatDoor
open Go.RowKit

/-- The way through three truth values that are counted. -/
def RsI (Z : World) (gk : Nat) (s5 s18 : Value) (x : World) : Prop := ∃ k n : Nat, k + gk = 3 ∧ n ≤ k ∧ s5 = .int .i64 (n : Int) ∧ s18 = .int .i64 (k : Int) ∧ x = Z
set_option maxRecDepth 1000000 in
set_option maxHeartbeats 8000000 in
theorem rightStatic_any (cs : Array Value) (a0 : Nat) (a1 : Int) (a2 : Nat) (a3 : ByteArray) (a4 : Bool) (a5 a6 : Int) (w : World) (ok : RtC w cs) : Calls Tryz.prog 87 #[.agg cs, .agg #[.int .u32 (a0 : Int), .int .i64 a1, .int .u32 (a2 : Int), .string a3, .bool a4, .int .i64 a5, .int .i64 a6]] w (AnyB w) := by
  have h0 := heap_alloc_new w (.cells cs 41)
  have BX : Hid (∀ y, Kp No (w.alloc (.cells cs 41)) y → y.heap[w.heap.size]? = some (.cells cs 41 (0, 0))) := Lib.hid (fun y k => (k.block _ (heap_lt h0) (fun h => h)).trans h0)
  have KA := Lib.hid (Kp.alloc (w := w) (.cells cs 41))
  have OK := Lib.hid ok
  clear h0 ok
  go_enter Tryz.func87, Tryz.ntmps87
  go_upto_region 1 with fail
  have e1 := heap_alloc_new (w.alloc (.cells cs 41)) (.cells #[.int .u32 (a0 : Int), .int .i64 a1, .int .u32 (a2 : Int), .string a3, .bool a4, .int .i64 a5, .int .i64 a6] 158)
  have K1 := Lib.hid (Kp.alloc (w := w.alloc (.cells cs 41)) (.cells #[.int .u32 (a0 : Int), .int .i64 a1, .int .u32 (a2 : Int), .string a3, .bool a4, .int .i64 a5, .int .i64 a6] 158))
  have hsz : (w.alloc (.cells cs 41)).heap.size = w.heap.size + 1 := by simp
  rw [hsz] at e1
  generalize w.alloc (.cells cs 41) = X0 at *
  generalize X0.alloc (.cells #[.int .u32 (a0 : Int), .int .i64 a1, .int .u32 (a2 : Int), .string a3, .bool a4, .int .i64 a5, .int .i64 a6] 158) = X at *
  obtain ⟨d0, d1, d2, d3, d4, d5, d6⟩ := cel7 e1
  have E1 := Lib.hid e1
  have BX2 := Lib.hid (fun (y : World) (q : Kp No X y) => BX.out y (K1.out.trans_no q))
  have OX := Lib.hid (OK.out.no (KA.out.trans_no K1.out))
  have WI := Lib.hid (fun (n a c : Int) (y : World) => within_ok n a c y)
  have AD := Lib.hid (fun (y : World) (q : Kp No X y) => Address_any cs a2 y (OX.out.no q))
  clear e1 hsz
  go_upto_region 2 with fail
  rcases Nat.eq_zero_or_pos a2 with rfl | h2
  · rcases str_cases a3 with ⟨b3, b3'⟩ | ⟨b3, b3'⟩
    · have g0 := heap_alloc_new X (.cells #[.bool false, .bool false, .bool a4] 4)
      have KY := Lib.hid (Kp.alloc (w := X) (.cells #[.bool false, .bool false, .bool a4] 4))
      go_wp2
      generalize X.alloc (.cells #[.bool false, .bool false, .bool a4] 4) = Y at *
      obtain ⟨f0, f1, f2⟩ := cel3 g0
      clear g0 d0 d1 d2 d3 d4 d5 d6
      go_loopg [5, 18] 3 (fun gk s5 s18 x => RsI Y gk s5 s18 x)
      case atStart => exact ⟨0, 0, by omega, by omega, rfl, rfl, rfl⟩
      case round =>
        obtain ⟨k, n, hk, hn, rfl, rfl, rfl⟩ := hrel
        have HK := Lib.hid (And.intro hk (And.intro hn (show n + 1 ≤ k + 1 by omega)))
        have hw : (n : Int) + 1 = ((n + 1 : Nat) : Int) := by omega
        have hw1 : IntKind.i64.wrap ((n : Int) + 1) = ((n + 1 : Nat) : Int) := by rw [hw]; exact IntWalk.i64_in _ ⟨by omega, by omega⟩
        by_cases hlt : k < 3
        · have hk3 : k = 0 ∨ k = 1 ∨ k = 2 := by omega
          generalize n + 1 = n1 at *
          clear hk hn hlt hw
          rcases hk3 with rfl | rfl | rfl
          · go_wp2
            all_goals (go_roundg 2; (case measure => (have := HK.out; omega)); (case rel => first | exact ⟨1, n1, by omega, by have := HK.out; omega, rfl, rfl, rfl⟩ | exact ⟨1, n, by omega, by have := HK.out; omega, rfl, rfl, rfl⟩))
          · go_wp2
            all_goals (go_roundg 1; (case measure => (have := HK.out; omega)); (case rel => first | exact ⟨2, n1, by omega, by have := HK.out; omega, rfl, rfl, rfl⟩ | exact ⟨2, n, by omega, by have := HK.out; omega, rfl, rfl, rfl⟩))
          · cases a4
            all_goals
              go_wp2
              all_goals (go_roundg 0; (case measure => (have := HK.out; omega)); (case rel => first | exact ⟨3, n1, by omega, by have := HK.out; omega, rfl, rfl, rfl⟩ | exact ⟨3, n, by omega, by have := HK.out; omega, rfl, rfl, rfl⟩))
        · obtain rfl : k = 3 := by omega
          clear hk hn hlt hw hw1 f0 f1 f2
          obtain ⟨d0, d1, d2, d3, d4, d5, d6⟩ := cel7 ((KY.out.block _ (heap_lt E1.out) (fun h => h)).trans E1.out)
          go_wp2_with fail
          refine (Valid_ok a0 a1 _).mono ?_
          rintro e y ⟨rfl, ky⟩
          have KV := Lib.hid (KY.out.trans_no ky)
          clear d0 d1 d2 d3 d4 d5 d6 ky
          obtain ⟨d0, d1, d2, d3, d4, d5, d6⟩ := cel7 ((KV.out.block _ (heap_lt E1.out) (fun h => h)).trans E1.out)
          generalize pvB a0 a1 = q
          cases q
          · go_wp2
            go_ret
            exact ⟨_, rfl, KA.out.trans_no (K1.out.trans_no KV.out)⟩
          · by_cases hn1 : (n : Int) = 1
            · go_wp2_with fail
              refine (WI.out _ _ _ _).mono ?_
              rintro e u ⟨rfl, rfl⟩
              generalize wiB a5 1 255 = q5
              cases q5
              · go_wp2
                go_ret
                exact ⟨_, rfl, KA.out.trans_no (K1.out.trans_no KV.out)⟩
              · go_wp2_with fail
                refine (WI.out _ _ _ _).mono ?_
                rintro e u ⟨rfl, rfl⟩
                generalize wiB a6 0 65535 = q6
                go_wp2
                all_goals (go_ret; exact ⟨_, rfl, KA.out.trans_no (K1.out.trans_no KV.out)⟩)
            · go_wp2
              go_ret
              exact ⟨_, rfl, KA.out.trans_no (K1.out.trans_no KV.out)⟩
    · have g0 := heap_alloc_new X (.cells #[.bool false, .bool true, .bool a4] 4)
      have KY := Lib.hid (Kp.alloc (w := X) (.cells #[.bool false, .bool true, .bool a4] 4))
      go_wp2
      generalize X.alloc (.cells #[.bool false, .bool true, .bool a4] 4) = Y at *
      obtain ⟨f0, f1, f2⟩ := cel3 g0
      clear g0 d0 d1 d2 d3 d4 d5 d6
      go_loopg [5, 18] 3 (fun gk s5 s18 x => RsI Y gk s5 s18 x)
      case atStart => exact ⟨0, 0, by omega, by omega, rfl, rfl, rfl⟩
      case round =>
        obtain ⟨k, n, hk, hn, rfl, rfl, rfl⟩ := hrel
        have HK := Lib.hid (And.intro hk (And.intro hn (show n + 1 ≤ k + 1 by omega)))
        have hw : (n : Int) + 1 = ((n + 1 : Nat) : Int) := by omega
        have hw1 : IntKind.i64.wrap ((n : Int) + 1) = ((n + 1 : Nat) : Int) := by rw [hw]; exact IntWalk.i64_in _ ⟨by omega, by omega⟩
        by_cases hlt : k < 3
        · have hk3 : k = 0 ∨ k = 1 ∨ k = 2 := by omega
          generalize n + 1 = n1 at *
          clear hk hn hlt hw
          rcases hk3 with rfl | rfl | rfl
          · go_wp2
            all_goals (go_roundg 2; (case measure => (have := HK.out; omega)); (case rel => first | exact ⟨1, n1, by omega, by have := HK.out; omega, rfl, rfl, rfl⟩ | exact ⟨1, n, by omega, by have := HK.out; omega, rfl, rfl, rfl⟩))
          · go_wp2
            all_goals (go_roundg 1; (case measure => (have := HK.out; omega)); (case rel => first | exact ⟨2, n1, by omega, by have := HK.out; omega, rfl, rfl, rfl⟩ | exact ⟨2, n, by omega, by have := HK.out; omega, rfl, rfl, rfl⟩))
          · cases a4
            all_goals
              go_wp2
              all_goals (go_roundg 0; (case measure => (have := HK.out; omega)); (case rel => first | exact ⟨3, n1, by omega, by have := HK.out; omega, rfl, rfl, rfl⟩ | exact ⟨3, n, by omega, by have := HK.out; omega, rfl, rfl, rfl⟩))
        · obtain rfl : k = 3 := by omega
          clear hk hn hlt hw hw1 f0 f1 f2
          obtain ⟨d0, d1, d2, d3, d4, d5, d6⟩ := cel7 ((KY.out.block _ (heap_lt E1.out) (fun h => h)).trans E1.out)
          go_wp2_with fail
          refine (Valid_ok a0 a1 _).mono ?_
          rintro e y ⟨rfl, ky⟩
          have KV := Lib.hid (KY.out.trans_no ky)
          clear d0 d1 d2 d3 d4 d5 d6 ky
          obtain ⟨d0, d1, d2, d3, d4, d5, d6⟩ := cel7 ((KV.out.block _ (heap_lt E1.out) (fun h => h)).trans E1.out)
          generalize pvB a0 a1 = q
          cases q
          · go_wp2
            go_ret
            exact ⟨_, rfl, KA.out.trans_no (K1.out.trans_no KV.out)⟩
          · by_cases hn1 : (n : Int) = 1
            · go_wp2_with fail
              refine (WI.out _ _ _ _).mono ?_
              rintro e u ⟨rfl, rfl⟩
              generalize wiB a5 1 255 = q5
              cases q5
              · go_wp2
                go_ret
                exact ⟨_, rfl, KA.out.trans_no (K1.out.trans_no KV.out)⟩
              · go_wp2_with fail
                refine (WI.out _ _ _ _).mono ?_
                rintro e u ⟨rfl, rfl⟩
                generalize wiB a6 0 65535 = q6
                go_wp2
                all_goals (go_ret; exact ⟨_, rfl, KA.out.trans_no (K1.out.trans_no KV.out)⟩)
            · go_wp2
              go_ret
              exact ⟨_, rfl, KA.out.trans_no (K1.out.trans_no KV.out)⟩
  · have h2i : ¬ (a2 : Int) = 0 := by omega
    have h2b : ((a2 : Int) != 0) = true := by simp; omega
    have h2c : ((a2 : Int) == 0) = false := by simp; omega
    rcases str_cases a3 with ⟨b3, b3'⟩ | ⟨b3, b3'⟩
    · have g0 := heap_alloc_new X (.cells #[.bool true, .bool false, .bool a4] 4)
      have KY := Lib.hid (Kp.alloc (w := X) (.cells #[.bool true, .bool false, .bool a4] 4))
      go_wp2
      generalize X.alloc (.cells #[.bool true, .bool false, .bool a4] 4) = Y at *
      obtain ⟨f0, f1, f2⟩ := cel3 g0
      clear g0 d0 d1 d2 d3 d4 d5 d6
      go_loopg [5, 18] 3 (fun gk s5 s18 x => RsI Y gk s5 s18 x)
      case atStart => exact ⟨0, 0, by omega, by omega, rfl, rfl, rfl⟩
      case round =>
        obtain ⟨k, n, hk, hn, rfl, rfl, rfl⟩ := hrel
        have HK := Lib.hid (And.intro hk (And.intro hn (show n + 1 ≤ k + 1 by omega)))
        have hw : (n : Int) + 1 = ((n + 1 : Nat) : Int) := by omega
        have hw1 : IntKind.i64.wrap ((n : Int) + 1) = ((n + 1 : Nat) : Int) := by rw [hw]; exact IntWalk.i64_in _ ⟨by omega, by omega⟩
        by_cases hlt : k < 3
        · have hk3 : k = 0 ∨ k = 1 ∨ k = 2 := by omega
          generalize n + 1 = n1 at *
          clear hk hn hlt hw
          rcases hk3 with rfl | rfl | rfl
          · go_wp2
            all_goals (go_roundg 2; (case measure => (have := HK.out; omega)); (case rel => first | exact ⟨1, n1, by omega, by have := HK.out; omega, rfl, rfl, rfl⟩ | exact ⟨1, n, by omega, by have := HK.out; omega, rfl, rfl, rfl⟩))
          · go_wp2
            all_goals (go_roundg 1; (case measure => (have := HK.out; omega)); (case rel => first | exact ⟨2, n1, by omega, by have := HK.out; omega, rfl, rfl, rfl⟩ | exact ⟨2, n, by omega, by have := HK.out; omega, rfl, rfl, rfl⟩))
          · cases a4
            all_goals
              go_wp2
              all_goals (go_roundg 0; (case measure => (have := HK.out; omega)); (case rel => first | exact ⟨3, n1, by omega, by have := HK.out; omega, rfl, rfl, rfl⟩ | exact ⟨3, n, by omega, by have := HK.out; omega, rfl, rfl, rfl⟩))
        · obtain rfl : k = 3 := by omega
          clear hk hn hlt hw hw1 f0 f1 f2
          obtain ⟨d0, d1, d2, d3, d4, d5, d6⟩ := cel7 ((KY.out.block _ (heap_lt E1.out) (fun h => h)).trans E1.out)
          go_wp2_with fail
          refine (Valid_ok a0 a1 _).mono ?_
          rintro e y ⟨rfl, ky⟩
          have KV := Lib.hid (KY.out.trans_no ky)
          clear d0 d1 d2 d3 d4 d5 d6 ky
          obtain ⟨d0, d1, d2, d3, d4, d5, d6⟩ := cel7 ((KV.out.block _ (heap_lt E1.out) (fun h => h)).trans E1.out)
          generalize pvB a0 a1 = q
          cases q
          · go_wp2
            go_ret
            exact ⟨_, rfl, KA.out.trans_no (K1.out.trans_no KV.out)⟩
          · by_cases hn1 : (n : Int) = 1
            · go_wp2_with (first | (refine wpList_load_rt rfl _ rfl w.heap.size rfl cs OK.out.sz (BX2.out _ KV.out) ?_))
              refine (AD.out _ KV.out).mono ?_
              rintro e z ⟨i, rfl, kz, _, _⟩
              have K3 := Lib.hid (KV.out.trans_no kz)
              clear d0 d1 d2 d3 d4 d5 d6 kz
              obtain ⟨d0, d1, d2, d3, d4, d5, d6⟩ := cel7 ((K3.out.block _ (heap_lt E1.out) (fun h => h)).trans E1.out)
              by_cases hi : i < 0
              · go_wp2_with fail
                refine (WI.out _ _ _ _).mono ?_
                rintro e u ⟨rfl, rfl⟩
                generalize wiB a5 1 255 = q5
                cases q5
                · go_wp2
                  go_ret
                  exact ⟨_, rfl, KA.out.trans_no (K1.out.trans_no K3.out)⟩
                · go_wp2_with fail
                  refine (WI.out _ _ _ _).mono ?_
                  rintro e u ⟨rfl, rfl⟩
                  generalize wiB a6 0 65535 = q6
                  go_wp2
                  all_goals (go_ret; exact ⟨_, rfl, KA.out.trans_no (K1.out.trans_no K3.out)⟩)
              · go_wp2
                go_ret
                exact ⟨_, rfl, KA.out.trans_no (K1.out.trans_no K3.out)⟩
            · go_wp2
              go_ret
              exact ⟨_, rfl, KA.out.trans_no (K1.out.trans_no KV.out)⟩
    · have g0 := heap_alloc_new X (.cells #[.bool true, .bool true, .bool a4] 4)
      have KY := Lib.hid (Kp.alloc (w := X) (.cells #[.bool true, .bool true, .bool a4] 4))
      go_wp2
      generalize X.alloc (.cells #[.bool true, .bool true, .bool a4] 4) = Y at *
      obtain ⟨f0, f1, f2⟩ := cel3 g0
      clear g0 d0 d1 d2 d3 d4 d5 d6
      go_loopg [5, 18] 3 (fun gk s5 s18 x => RsI Y gk s5 s18 x)
      case atStart => exact ⟨0, 0, by omega, by omega, rfl, rfl, rfl⟩
      case round =>
        obtain ⟨k, n, hk, hn, rfl, rfl, rfl⟩ := hrel
        have HK := Lib.hid (And.intro hk (And.intro hn (show n + 1 ≤ k + 1 by omega)))
        have hw : (n : Int) + 1 = ((n + 1 : Nat) : Int) := by omega
        have hw1 : IntKind.i64.wrap ((n : Int) + 1) = ((n + 1 : Nat) : Int) := by rw [hw]; exact IntWalk.i64_in _ ⟨by omega, by omega⟩
        by_cases hlt : k < 3
        · have hk3 : k = 0 ∨ k = 1 ∨ k = 2 := by omega
          generalize n + 1 = n1 at *
          clear hk hn hlt hw
          rcases hk3 with rfl | rfl | rfl
          · go_wp2
            all_goals (go_roundg 2; (case measure => (have := HK.out; omega)); (case rel => first | exact ⟨1, n1, by omega, by have := HK.out; omega, rfl, rfl, rfl⟩ | exact ⟨1, n, by omega, by have := HK.out; omega, rfl, rfl, rfl⟩))
          · go_wp2
            all_goals (go_roundg 1; (case measure => (have := HK.out; omega)); (case rel => first | exact ⟨2, n1, by omega, by have := HK.out; omega, rfl, rfl, rfl⟩ | exact ⟨2, n, by omega, by have := HK.out; omega, rfl, rfl, rfl⟩))
          · cases a4
            all_goals
              go_wp2
              all_goals (go_roundg 0; (case measure => (have := HK.out; omega)); (case rel => first | exact ⟨3, n1, by omega, by have := HK.out; omega, rfl, rfl, rfl⟩ | exact ⟨3, n, by omega, by have := HK.out; omega, rfl, rfl, rfl⟩))
        · obtain rfl : k = 3 := by omega
          clear hk hn hlt hw hw1 f0 f1 f2
          obtain ⟨d0, d1, d2, d3, d4, d5, d6⟩ := cel7 ((KY.out.block _ (heap_lt E1.out) (fun h => h)).trans E1.out)
          go_wp2_with fail
          refine (Valid_ok a0 a1 _).mono ?_
          rintro e y ⟨rfl, ky⟩
          have KV := Lib.hid (KY.out.trans_no ky)
          clear d0 d1 d2 d3 d4 d5 d6 ky
          obtain ⟨d0, d1, d2, d3, d4, d5, d6⟩ := cel7 ((KV.out.block _ (heap_lt E1.out) (fun h => h)).trans E1.out)
          generalize pvB a0 a1 = q
          cases q
          · go_wp2
            go_ret
            exact ⟨_, rfl, KA.out.trans_no (K1.out.trans_no KV.out)⟩
          · by_cases hn1 : (n : Int) = 1
            · go_wp2_with (first | (refine wpList_load_rt rfl _ rfl w.heap.size rfl cs OK.out.sz (BX2.out _ KV.out) ?_))
              refine (AD.out _ KV.out).mono ?_
              rintro e z ⟨i, rfl, kz, _, _⟩
              have K3 := Lib.hid (KV.out.trans_no kz)
              clear d0 d1 d2 d3 d4 d5 d6 kz
              obtain ⟨d0, d1, d2, d3, d4, d5, d6⟩ := cel7 ((K3.out.block _ (heap_lt E1.out) (fun h => h)).trans E1.out)
              by_cases hi : i < 0
              · go_wp2_with fail
                refine (WI.out _ _ _ _).mono ?_
                rintro e u ⟨rfl, rfl⟩
                generalize wiB a5 1 255 = q5
                cases q5
                · go_wp2
                  go_ret
                  exact ⟨_, rfl, KA.out.trans_no (K1.out.trans_no K3.out)⟩
                · go_wp2_with fail
                  refine (WI.out _ _ _ _).mono ?_
                  rintro e u ⟨rfl, rfl⟩
                  generalize wiB a6 0 65535 = q6
                  go_wp2
                  all_goals (go_ret; exact ⟨_, rfl, KA.out.trans_no (K1.out.trans_no K3.out)⟩)
              · go_wp2
                go_ret
                exact ⟨_, rfl, KA.out.trans_no (K1.out.trans_no K3.out)⟩
            · go_wp2
              go_ret
              exact ⟨_, rfl, KA.out.trans_no (K1.out.trans_no KV.out)⟩
theorem eql_pf (b0 : Nat) (b1 : Int) (a0 : Nat) (a1 : Int) : ∃ r : Bool, ∀ W, (binOp .eql 44 (.agg #[.int .u32 (b0 : Int), .int .i64 b1]) (.agg #[.int .u32 (a0 : Int), .int .i64 a1])).run Tryz.prog W = .ok (.bool r) W := by
  by_cases h : b0 = a0 ∧ b1 = a1
  · obtain ⟨rfl, rfl⟩ := h
    exact ⟨true, fun W => by go_simp⟩
  · refine ⟨false, fun W => ?_⟩
    go_simp
    intro h1 h2
    exact h ⟨by omega, h2⟩
set_option maxRecDepth 1000000 in
set_option maxHeartbeats 8000000 in
theorem checkStatics_any (cs : Array Value) (w : World) (ok : RtC w cs) : Calls Tryz.prog 50 #[.agg cs] w (AnyE w) := by
  have h0 := heap_alloc_new w (.cells cs 41)
  have BX : Hid (∀ y, Kp No (w.alloc (.cells cs 41)) y → y.heap[w.heap.size]? = some (.cells cs 41 (0, 0))) := Lib.hid (fun y k => (k.block _ (heap_lt h0) (fun h => h)).trans h0)
  have KA := Lib.hid (Kp.alloc (w := w) (.cells cs 41))
  have OK := Lib.hid ok
  clear h0 ok
  obtain ⟨stsA, stsN, stsC, stsE, stsF, stsB⟩ := OK.out.sts
  by_cases hmx : 16 < stsN
  · have hmxi : (16 : Int) < stsN := by omega
    have f2 : (w.alloc (.cells cs 41)).cell? ⟨w.heap.size, 7, none⟩ = some (.slice stsA stsN stsC) := by rw [cell_of_row _ _ _ _ _ _ (BX.out _ (Kp.refl _ _))]; exact stsE
    clear BX OK stsE stsF hmx
    go_enter Tryz.func50, Tryz.ntmps50
    go_upto_region 1 with fail
    generalize w.alloc (.cells cs 41) = X at *
    go_wp2
    go_ret
    exact ⟨_, rfl, KA.out⟩
  have hmxi : ¬ (16 : Int) < stsN := by omega
  clear hmx
  have FE := Lib.hid stsE
  have FF := Lib.hid stsF
  have hcmi : (stsC : Int) ≤ 9223372036854775807 := by have := stsB; omega
  have hncap : (stsN : Int) ≤ stsC := by have := stsB; omega
  have FB := Lib.hid stsB
  have hNb : (stsN : Int) ≤ 9223372036854775807 := by have := stsB; omega
  have CX : Hid (∀ y, Kp No (w.alloc (.cells cs 41)) y → y.cell? ⟨w.heap.size, 7, none⟩ = some (.slice stsA stsN stsC)) := Lib.hid (fun y q => by rw [cell_of_row _ _ _ _ _ _ (BX.out y q)]; exact FE.out)
  clear stsE stsF stsB
  go_enter Tryz.func50, Tryz.ntmps50
  go_upto_region 1 with fail
  generalize w.alloc (.cells cs 41) = X at *
  have f2 := CX.out X (Kp.refl _ _)
  go_wp2
  go_loopg [15] stsN (fun gk s x => LpI X stsN gk s x)
  case atStart => exact ⟨0, by omega, rfl, Kp.refl _ _⟩
  case round =>
    clear f2
    obtain ⟨k, hk, rfl, kp⟩ := hrel
    have HK := Lib.hid hk
    have KP := Lib.hid kp
    by_cases hlt : k < stsN
    · have hlti : (k : Int) < stsN := by omega
      have hkc : (k : Int) ≤ stsC := by omega
      have hkl : (k : Int) ≤ stsN := by omega
      have HLT := Lib.hid hlt
      obtain ⟨g, o, a0, a1, a2, a3, a4, a5, a6, e, hg, ⟨c0, c1, c2, c3, c4, c5, c6⟩, h0, h1, h2, h3, h5, h6⟩ := st_at (FF.out.no (KA.out.trans_no kp)) hlt
      subst e
      have n0 := heap_alloc_new wr (.cells #[.int .u32 (a0 : Int), .int .i64 a1, .int .u32 (a2 : Int), .string a3, .bool a4, .int .i64 a5, .int .i64 a6] 158)
      have KZ := Lib.hid (kp.trans_no (Kp.alloc (w := wr) (.cells #[.int .u32 (a0 : Int), .int .i64 a1, .int .u32 (a2 : Int), .string a3, .bool a4, .int .i64 a5, .int .i64 a6] 158)))
      clear hk kp hg
      go_upto_region 6 with fail
      clear c0 c1 c2 c3 c4 c5 c6
      generalize wr.alloc (.cells #[.int .u32 (a0 : Int), .int .i64 a1, .int .u32 (a2 : Int), .string a3, .bool a4, .int .i64 a5, .int .i64 a6] 158) = Z at *
      have NB : Hid (∀ y, Kp No Z y → y.heap[wr.heap.size]? = some (.cells #[.int .u32 (a0 : Int), .int .i64 a1, .int .u32 (a2 : Int), .string a3, .bool a4, .int .i64 a5, .int .i64 a6] 158 (0, 0))) := Lib.hid (fun y q => (q.block _ (heap_lt n0) (fun h => h)).trans n0)
      have OZ := Lib.hid (OK.out.no (KA.out.trans_no KZ.out))
      obtain ⟨d0, d1, d2, d3, d4, d5, d6⟩ := cel7 n0
      clear n0
      clear hncap h0 h1 h2 h3 h5 h6
      have RS := Lib.hid (fun (y : World) (q : Kp No Z y) => rightStatic_any cs a0 a1 a2 a3 a4 a5 a6 y (OZ.out.no q))
      have C1 := Lib.hid (fun (y : World) (q : Kp No Z y) => Interface_any cs a3 y (OZ.out.no q))
      obtain ⟨ifsA, ifsN, ifsC, ifsE, ifsF, ifsB⟩ := OK.out.ifs
      have IE := Lib.hid ifsE
      have IF := Lib.hid (And.intro ifsF ifsB)
      clear ifsE ifsF ifsB
      go_wp2_with (first | (refine wpList_load_rt rfl _ rfl w.heap.size rfl cs OK.out.sz (BX.out _ KZ.out) ?_))
      refine (RS.out _ (Kp.refl No Z)).mono ?_
      rintro e y ⟨q1, rfl, ky⟩
      have KY := Lib.hid ky
      have K2 := Lib.hid (KZ.out.trans_no ky)
      clear d0 d1 d2 d3 d4 d5 d6 ky
      obtain ⟨d0, d1, d2, d3, d4, d5, d6⟩ := cel7 (NB.out y KY.out)
      cases q1
      · go_wp2
        go_ret
        exact ⟨_, rfl, KA.out.trans_no K2.out⟩
      rcases str_cases a3 with ⟨b9, b9'⟩ | ⟨b9, b9'⟩
      · have f20 := CX.out _ K2.out
        have KQ := Lib.hid K2.out
        have KNZ := Lib.hid KY.out
        go_wp2
        generalize wr = W1 at *
        go_loopg [45] k (fun gk s x => LpI y k gk s x)
        case atStart => exact ⟨0, by omega, rfl, Kp.refl _ _⟩
        case round =>
          clear f20 d0 d1 d2 d3 d4 d5 d6
          obtain ⟨j, hj, rfl, kj⟩ := hrel
          have HJ := Lib.hid hj
          by_cases hltj : j < k
          · have hltji : (j : Int) < k := by omega
            have HLTJ := Lib.hid hltj
            obtain ⟨g', o', b0, b1, b2, b3, b4, b5, b6, e', hg', ⟨e0, e1, e2, e3, e4, e5, e6⟩, m0, m1, m2, m3, m5, m6⟩ := st_at (i := j) (FF.out.no (KA.out.trans_no (KQ.out.trans_no kj))) (by have := HLT.out; omega)
            cases e'
            have n1 := heap_alloc_new wr (.cells #[.int .u32 (b0 : Int), .int .i64 b1, .int .u32 (b2 : Int), .string b3, .bool b4, .int .i64 b5, .int .i64 b6] 158)
            have KV := Lib.hid (kj.trans_no (Kp.alloc (w := wr) (.cells #[.int .u32 (b0 : Int), .int .i64 b1, .int .u32 (b2 : Int), .string b3, .bool b4, .int .i64 b5, .int .i64 b6] 158)))
            clear hj kj hg' m0 m1 m2 m3 m5 m6
            go_upto_region 17 with fail
            clear e0 e1 e2 e3 e4 e5 e6
            generalize wr.alloc (.cells #[.int .u32 (b0 : Int), .int .i64 b1, .int .u32 (b2 : Int), .string b3, .bool b4, .int .i64 b5, .int .i64 b6] 158) = V at *
            obtain ⟨x0, x1, _, _, _, x5, _⟩ := cel7 n1
            obtain ⟨y0, y1, _, _, _, y5, _⟩ := cel7 (NB.out V (KNZ.out.trans_no KV.out))
            clear n1
            obtain ⟨r, EQ⟩ := eql_pf b0 b1 a0 a1
            cases r
            all_goals
              go_wp2
              all_goals first
                | (go_ret; exact ⟨_, rfl, KA.out.trans_no (KQ.out.trans_no KV.out)⟩)
                | (go_roundg (k - (j + 1)); (case measure => (have := HJ.out; have := HLTJ.out; omega)); (case rel => exact ⟨j + 1, by have := HJ.out; have := HLTJ.out; omega, by go_num, KV.out⟩))
          · obtain rfl : j = k := by omega
            have hgej : ¬ (j : Int) < j := by omega
            have KE := Lib.hid (KQ.out.trans_no kj)
            clear hj kj hltj
            go_wp2
            go_roundg (stsN - (j + 1))
            case measure => have := HK.out; have := HLT.out; omega
            case rel => exact ⟨j + 1, by have := HK.out; have := HLT.out; omega, by go_num, KE.out⟩
      · go_wp2_with (first | (refine wpList_load_rt rfl _ rfl w.heap.size rfl cs OK.out.sz (BX.out _ K2.out) ?_))
        refine (C1.out _ KY.out).mono ?_
        rintro e z ⟨i, rfl, kz, hi0, hib⟩
        have K3 := Lib.hid (K2.out.trans_no kz)
        have KN3 := Lib.hid (KY.out.trans_no kz)
        have HIB := Lib.hid (hib ifsA ifsN ifsC IE.out)
        clear kz hib d0 d1 d2 d3 d4 d5 d6
        obtain ⟨d0, d1, d2, d3, d4, d5, d6⟩ := cel7 (NB.out z KN3.out)
        by_cases hi : i < 0
        · go_wp2
          go_ret
          exact ⟨_, rfl, KA.out.trans_no K3.out⟩
        · obtain ⟨iN, rfl⟩ : ∃ iN : Nat, i = (iN : Int) := ⟨i.toNat, by omega⟩
          have hiN : iN < ifsN := by have := HIB.out; omega
          have hiNi : (iN : Int) < ifsN := by omega
          have hiN0 : (0 : Int) ≤ (iN : Int) := by omega
          have hiNb : (ifsN : Int) ≤ 9223372036854775807 := by have := IF.out.2; omega
          have f30 : z.cell? ⟨w.heap.size, 2, none⟩ = some (.slice ifsA ifsN ifsC) := by rw [cell_of_row _ _ _ _ _ _ (BX.out z K3.out)]; exact IE.out
          obtain ⟨gi, oi, p0, p1, p2, p3, p4, p5, p6, p7, p8, p9, p10, p11, ei, hgi, ⟨_, _, u2, _⟩, _⟩ := if_at (IF.out.1.no (KA.out.trans_no K3.out)) hiN
          subst ei
          by_cases hp : p2 = 0
          · subst hp
            go_wp2
            go_ret
            exact ⟨_, rfl, KA.out.trans_no K3.out⟩
          · have hp' : (p2 == 0) = false := by simp [hp]
            clear hi hi0 hgi
            have f20 := CX.out _ K3.out
            have KQ := Lib.hid K3.out
            have KNZ := Lib.hid KN3.out
            go_wp2
            generalize wr = W1 at *
            go_loopg [45] k (fun gk s x => LpI z k gk s x)
            case atStart => exact ⟨0, by omega, rfl, Kp.refl _ _⟩
            case round =>
              clear f20 d0 d1 d2 d3 d4 d5 d6
              obtain ⟨j, hj, rfl, kj⟩ := hrel
              have HJ := Lib.hid hj
              by_cases hltj : j < k
              · have hltji : (j : Int) < k := by omega
                have HLTJ := Lib.hid hltj
                obtain ⟨g', o', b0, b1, b2, b3, b4, b5, b6, e', hg', ⟨e0, e1, e2, e3, e4, e5, e6⟩, m0, m1, m2, m3, m5, m6⟩ := st_at (i := j) (FF.out.no (KA.out.trans_no (KQ.out.trans_no kj))) (by have := HLT.out; omega)
                cases e'
                have n1 := heap_alloc_new wr (.cells #[.int .u32 (b0 : Int), .int .i64 b1, .int .u32 (b2 : Int), .string b3, .bool b4, .int .i64 b5, .int .i64 b6] 158)
                have KV := Lib.hid (kj.trans_no (Kp.alloc (w := wr) (.cells #[.int .u32 (b0 : Int), .int .i64 b1, .int .u32 (b2 : Int), .string b3, .bool b4, .int .i64 b5, .int .i64 b6] 158)))
                clear hj kj hg' m0 m1 m2 m3 m5 m6
                go_upto_region 17 with fail
                clear e0 e1 e2 e3 e4 e5 e6
                generalize wr.alloc (.cells #[.int .u32 (b0 : Int), .int .i64 b1, .int .u32 (b2 : Int), .string b3, .bool b4, .int .i64 b5, .int .i64 b6] 158) = V at *
                obtain ⟨x0, x1, _, _, _, x5, _⟩ := cel7 n1
                obtain ⟨y0, y1, _, _, _, y5, _⟩ := cel7 (NB.out V (KNZ.out.trans_no KV.out))
                clear n1
                obtain ⟨r, EQ⟩ := eql_pf b0 b1 a0 a1
                cases r
                all_goals
                  go_wp2
                  all_goals first
                    | (go_ret; exact ⟨_, rfl, KA.out.trans_no (KQ.out.trans_no KV.out)⟩)
                    | (go_roundg (k - (j + 1)); (case measure => (have := HJ.out; have := HLTJ.out; omega)); (case rel => exact ⟨j + 1, by have := HJ.out; have := HLTJ.out; omega, by go_num, KV.out⟩))
              · obtain rfl : j = k := by omega
                have hgej : ¬ (j : Int) < j := by omega
                have KE := Lib.hid (KQ.out.trans_no kj)
                clear hj kj hltj
                go_wp2
                go_roundg (stsN - (j + 1))
                case measure => have := HK.out; have := HLT.out; omega
                case rel => exact ⟨j + 1, by have := HK.out; have := HLT.out; omega, by go_num, KE.out⟩
    · obtain rfl : k = stsN := by omega
      have hge : ¬ (k : Int) < k := by omega
      clear hk kp hlt
      go_wp2
      go_ret
      exact ⟨_, rfl, KA.out.trans_no KP.out⟩

end Go.Proofs.YtdgnbbmgcgfibaaGreatDoor
