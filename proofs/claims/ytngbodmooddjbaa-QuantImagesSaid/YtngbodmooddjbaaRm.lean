/-
  Walks: 'Rename' of the package quant.
-/
import Derived.Test.YtngbodmooddjbaaRn
import Derived.Test.YtngbodmooddjbaaQa
namespace Go.Proofs.Ytngbodmooddjbaa
open Go.RowKit

/-- The variables in the places of the variables, behind i steps. -/
def rnI (n : Nat) (fr tg : List Nat) (i : Nat) : List Nat := (List.range i).foldl (fun T j => T.set (fr.getD j 0) (tg.getD j 0)) (List.range n)
theorem rnI_succ (n : Nat) (fr tg : List Nat) (i : Nat) : rnI n fr tg (i + 1) = (rnI n fr tg i).set (fr.getD i 0) (tg.getD i 0) := by
  unfold rnI; rw [List.range_succ, List.foldl_append]; rfl
theorem rnI_len (n : Nat) (fr tg : List Nat) : ∀ i, (rnI n fr tg i).length = n
  | 0 => by simp [rnI]
  | i + 1 => by rw [rnI_succ, List.length_set, rnI_len n fr tg i]
theorem rnI_lt {n : Nat} {fr tg : List Nat} (ht : ∀ v, v ∈ tg → v < n) : ∀ i, i ≤ tg.length → ∀ v, v < n → (rnI n fr tg i).getD v 0 < n
  | 0, _, v, hv => by simp [rnI, hv]
  | i + 1, hi, v, hv => by
    rw [rnI_succ]
    have ih := rnI_lt (fr := fr) ht i (by omega) v hv
    have hu : tg.getD i 0 < n := ht _ (by rw [List.getD_eq_getElem?_getD, List.getElem?_eq_getElem (by omega)]; exact List.getElem_mem (by omega))
    rw [List.getD_eq_getElem?_getD, List.getElem?_set]
    have hl := rnI_len n fr tg i
    by_cases e : fr.getD i 0 = v
    · rw [if_pos e, if_pos (by omega)]; exact hu
    · rw [if_neg e, ← List.getD_eq_getElem?_getD]; exact ih
def rnT (n : Nat) (fr tg : List Nat) : Nat → Nat := fun v => (rnI n fr tg fr.length).getD v 0

theorem rowForm {w : World} {B e size n : Nat} {v : Value} {xs : List Value} (h : w.ownsRow B e size v n xs) : ∃ a c, v = .slice a n c := by
  rcases h.2 with ⟨rfl, rfl⟩ | ⟨g, cap, cur, rfl, _⟩
  · exact ⟨none, 0, rfl⟩
  · exact ⟨_, cap, rfl⟩
/-- The state while a renamer is made. -/
structure RnJ (w : World) (p br bs : Nat) (v : Value) (T : List Nat) (x : World) : Prop where
  str : x.heap[br]? = some (.cells #[ptr p, v, .map (some bs)] 103 (0, 0))
  row : x.ownsRow w.heap.size 3 1 v T.length (T.map natV)
  mp : x.heap[bs]? = some (.map #[] 0)
  kp : Kp No w x
  nr : w.heap.size ≤ br
  ns : w.heap.size ≤ bs
section
variable {w x y : World} {p br bs : Nat} {v : Value} {T : List Nat}
theorem RnJ.no (j : RnJ w p br bs v T x) (k : Kp No x y) : RnJ w p br bs v T y :=
  ⟨by rw [k.block _ (heap_lt j.str) (fun z => z)]; exact j.str, ownsRow_kp j.row k (fun _ _ z => z), by rw [k.block _ (heap_lt j.mp) (fun z => z)]; exact j.mp, j.kp.trans_no k, j.nr, j.ns⟩
theorem RnJ.off (j : RnJ w p br bs v T x) : ∀ b, v.ownBlock = some b → b ≠ br ∧ b ≠ bs ∧ w.heap.size ≤ b := fun b hb => by
  obtain ⟨cur, hc⟩ := ownsRow_block j.row hb
  refine ⟨fun e => ?_, fun e => ?_, (j.row.lt b hb).1⟩
  · rw [e, j.str] at hc; simp at hc
  · rw [e, j.mp] at hc; simp at hc
theorem RnJ.grow {v' : Value} {k : Nat} {A : World} (j : RnJ w p br bs v T x) (kA : Kp No x A) (hg : A.grownBy y v.ownBlock) (hown : y.ownsRow w.heap.size 3 1 v' (T.length + 1) (T.map natV ++ [.int .i64 (k : Int)])) :
    RnJ w p br bs v' (T ++ [k]) (y.setCell ⟨br, 1, none⟩ v') ∧ y.heap[br]? = some (.cells #[ptr p, v, .map (some bs)] 103 (0, 0)) := by
  have kg : Kp (fun z => v.ownBlock = some z) x y := grown_no kA hg
  have s1 : y.heap[br]? = some (.cells #[ptr p, v, .map (some bs)] 103 (0, 0)) := by rw [kg.block _ (heap_lt j.str) (fun e => (j.off br e).1 rfl)]; exact j.str
  have m1 : y.heap[bs]? = some (.map #[] 0) := by rw [kg.block _ (heap_lt j.mp) (fun e => (j.off bs e).2.1 rfl)]; exact j.mp
  have hne : bs ≠ br := fun e => by rw [e, s1] at m1; simp at m1
  refine ⟨⟨?_, ?_, ?_, ?_, j.nr, j.ns⟩, s1⟩
  · rw [setCell_heap s1]; rfl
  · rw [List.length_append, List.map_append]
    refine ownsRow_kp hown (Kp.setCell _ _) (fun b hb e => ?_)
    obtain ⟨cur, hc⟩ := ownsRow_block hown hb
    rw [show b = br from e, s1] at hc; simp at hc
  · rw [Below.heap_setCell _ _ _ _ hne]; exact m1
  · exact (j.kp.trans (A' := fun z => v.ownBlock = some z) (fun z hz => .inr (j.off z hz).2.2) kg).trans (A' := fun z => z = br) (fun z e => .inr (by rw [e]; exact j.nr)) ((Kp.setCell _ _).mono (fun _ _ e => e))
theorem RnJ.put {gt n ct a u : Nat} (j : RnJ w p br bs (.slice (some ⟨gt, 0, none⟩) n ct) T x) (hn : T.length = n) : RnJ w p br bs (.slice (some ⟨gt, 0, none⟩) n ct) (T.set a u) (x.setCell ⟨gt, a, none⟩ (.int .i64 (u : Int))) := by
  obtain ⟨o1, o2, o3⟩ := j.off gt rfl
  refine ⟨?_, ?_, ?_, ?_, j.nr, j.ns⟩
  · rw [Below.heap_setCell _ _ _ _ (Ne.symm o1)]; exact j.str
  · have := j.row
    rw [hn] at this
    have := ownsRow_put this a (.int .i64 (u : Int))
    rw [List.length_set, hn, List.map_set]
    exact this
  · rw [Below.heap_setCell _ _ _ _ (Ne.symm o2)]; exact j.mp
  · exact j.kp.trans (A' := fun z => z = gt) (fun z e => .inr (by rw [e]; exact o3)) ((Kp.setCell _ _).mono (fun _ _ e => e))
end

def RnR1 (w : World) (p br bs n gk : Nat) (s : Value) (x : World) : Prop := ∃ k v, k + gk = n ∧ s = .int .i64 (k : Int) ∧ RnJ w p br bs v (List.range k) x
def RnR2 (w : World) (p br bs n : Nat) (fr tg : List Nat) (gt ct gk : Nat) (s : Value) (x : World) : Prop := ∃ i, i + gk = fr.length ∧ s = .int .i64 (i : Int) ∧ RnJ w p br bs (.slice (some ⟨gt, 0, none⟩) n ct) (rnI n fr tg i) x

def RxPost (p : Nat) (M : Mgr) (L : Lay) (t : Nat → Nat) (F : Bfn) (w : World) (e : Ending) (w' : World) : Prop := ∃ (M' : Mgr) (r : Nat), Ret p L w (M'.show r) (.int .i64 (r : Int)) e w' ∧ Mgr.Ren M t F M' r

set_option maxRecDepth 1000000 in
set_option maxHeartbeats 8000000 in
theorem Rename_ok {p : Nat} {M : Mgr} {L : Lay} (f : Nat) (fr tg : List Nat) (hl : fr.length = tg.length) (hll : fr.length ≤ 1000000) (hfr : ∀ v, v ∈ fr → v < M.n) (hto : ∀ v, v ∈ tg → v < M.n) (nd : fr.Nodup) (hf : M.valid (f : Int) = true) {fv tv : Value} {w : World} (R : Rep w p M L) (hn : M.n ≤ 256) (h0 : 0 < M.n)
    (hd : SrcAt w fv 1 fr.length (fr.map natV)) (hd2 : SrcAt w tv 1 tg.length (tg.map natV))
    (hb : ∀ M', Mgr.Adds M M' (M.RenF (rnT M.n fr tg) (M.sem f)) → M'.nodes.length ≤ big) :
    Calls Try.prog 17 #[ptr p, .int .i64 (f : Int), fv, tv] w (RxPost p M L (rnT M.n fr tg) (M.sem f) w) := by
  obtain ⟨i0, hi0, hz0, hz1, hz2⟩ := info_parts info_int
  have VF := Lib.hid (valid_as (f : Int) true R hf)
  have V1 := Lib.hid (variables_ok (fr.map Int.ofNat) (by rw [List.length_map]; exact hll) R (dv := fv) (by rw [List.length_map, natInt]; exact hd))
  rw [varsB_of hfr] at V1
  have V2 := Lib.hid (variables_ok (tg.map Int.ofNat) (by rw [List.length_map]; omega) R (dv := tv) (by rw [List.length_map, natInt]; exact hd2))
  rw [varsB_of hto] at V2
  have RP := Lib.hid (repeats_ok fr hll hfr R hn hd false ⟨fun h => (by cases h), fun h => absurd nd h⟩)
  have hmm := @run_makeMap Try.prog
  have VARS := Lib.hid (fun (y : World) (ky : Kp No w y) => vars_ok (R.no ky))
  unfold natV at VARS
  have SF : Hid (∀ y, Kp No w y → SrcAt y fv 1 fr.length (fr.map natV)) := Lib.hid (fun y ky => hd.no ky)
  have ST : Hid (∀ y, Kp No w y → SrcAt y tv 1 tg.length (tg.map natV)) := Lib.hid (fun y ky => hd2.no ky)
  have FRL := Lib.hid hfr
  have TOL := Lib.hid hto
  have RR := Lib.hid R
  have HB := Lib.hid hb
  have sf : M.stored f := by obtain ⟨k, hk, sk, _⟩ := Mgr.valid_nat R.wf hf; rw [show f = k from by omega]; exact sk
  have SFT := Lib.hid sf
  obtain ⟨ao, cp, rfl⟩ := hd.form
  obtain ⟨bo, dp, htv⟩ := hd2.form
  rw [← hl] at htv
  subst htv
  have hli : (fr.length : Int) ≤ 1000000 := by omega
  have HLT := Lib.hid hl
  have hni : (M.n : Int) ≤ 256 := by omega
  have HN0 := Lib.hid h0
  have HN256 := Lib.hid hn
  clear hd hd2 R hfr hto nd hf hb sf hl h0
  go_enter Try.func17, Try.ntmps17
  go_wp2_with fail
  refine VF.out.mono ?_
  rintro e w' ⟨rfl, rfl⟩
  clear VF
  go_wp2_with fail
  refine V1.out.mono ?_
  rintro e w' ⟨rfl, rfl⟩
  clear V1
  go_wp2_with fail
  refine V2.out.mono ?_
  rintro e w' ⟨rfl, rfl⟩
  clear V2
  go_wp2_with fail
  refine RP.out.mono ?_
  rintro e w1 ⟨rfl, k1⟩
  have J0 : Hid (RnJ w p (w1.heap.size + 1) w1.heap.size (.slice none 0 0) [] ((w1.alloc (.map #[] 0)).alloc (.cells #[ptr p, .slice none 0 0, .map (some w1.heap.size)] 103))) := Lib.hid (by
    have hs := k1.size
    refine ⟨?_, World.ownsRow_nil _ _ _ _, ?_, (k1.trans_no (Kp.alloc _)).trans_no (Kp.alloc _), by omega, by omega⟩
    · have := heap_alloc_new (w1.alloc (.map #[] 0)) (.cells #[ptr p, .slice none 0 0, .map (some w1.heap.size)] 103)
      simpa using this
    · rw [Below.heap_alloc _ _ _ (by simp)]; exact heap_alloc_new _ _)
  have VW := Lib.hid (VARS.out _ J0.out.kp)
  clear RP k1
  go_wp2_with fail
  refine VW.out.mono ?_
  rintro e w' ⟨rfl, rfl⟩
  clear VW VARS hmm
  have JA : Hid (RnR1 w p (w1.heap.size + 1) w1.heap.size M.n M.n (.int .i64 0) ((w1.alloc (.map #[] 0)).alloc (.cells #[ptr p, .slice none 0 0, .map (some w1.heap.size)] 103))) := Lib.hid ⟨0, _, by omega, rfl, J0.out⟩
  clear J0
  generalize ((w1.alloc (.map #[] 0)).alloc (.cells #[ptr p, .slice none 0 0, .map (some w1.heap.size)] 103)) = wS at *
  obtain ⟨br, hbr⟩ : ∃ x, w1.heap.size + 1 = x := ⟨_, rfl⟩
  rw [hbr] at JA ⊢
  generalize w1.heap.size = bs at *
  clear hbr
  generalize hnn : M.n = n at *
  have HNN := Lib.hid hnn
  clear hnn
  go_wp2_with fail
  go_loopg [47] n (fun gk s x => RnR1 w p br bs n gk s x)
  case atStart => exact JA.out
  case round =>
    clear JA
    obtain ⟨k, v, hk, rfl, j⟩ := hrel
    have row : wr.ownsRow w.heap.size 3 1 v k ((List.range k).map natV) := by simpa using j.row
    by_cases hlt : k < n
    · have q1 : wr.cell? ⟨br, 1, none⟩ = some v := by rw [cell_of_row _ _ _ _ _ _ j.str]; rfl
      have lq := heap_lt j.str
      have hsz := j.kp.size
      obtain ⟨a5, c5, rfl⟩ := rowForm row
      have HJ := Lib.hid j
      have HK := Lib.hid hk
      have hlti : (k : Int) < (n : Int) := by omega
      have hk256 : k < 256 := by omega
      clear j hk
      go_upto_region 8 with (at_builtin; refine wpList_append_lies _ rfl (.tmp 54) (.tmp 56) _ rfl w.heap.size 3 i0 _ 1 8 Try.underlying33 hi0 hz0 hz1 hz2 rfl (by omega) (.slice a5 k c5) k ((List.range k).map natV) rfl (row.alloc _) ⟨wr.heap.size, 0, none⟩ 1 1 [.int .i64 (k : Int)] rfl rfl (World.news_of_block (heap_alloc_new _ _)) (by simp [Value.oneCell']) (by omega) (by unfold maxLen; omega) (by omega) (by simp; omega) (wr.heap.size + 1) (by simp) ?_; intro g5 cap5 w3 hown hgrow hat hlt2; obtain ⟨jn, s3⟩ := HJ.out.grow (k := k) (Kp.alloc _) hgrow (v' := .slice (some ⟨g5, 0, none⟩) (k + 1) cap5) (by simpa using hown); have q3 : w3.cell? ⟨br, 1, none⟩ = some (.slice a5 k c5) := (by rw [cell_of_row _ _ _ _ _ _ s3]; rfl); have z3 : w3.frozen? ⟨br, 1, none⟩ = false := (by simp [World.frozen?, s3]); have l3 := heap_lt s3; have JNN := Lib.hid jn; clear hown hgrow hat hlt2 jn s3)
      have JN : Hid (RnR1 w p br bs n (n - (k + 1)) (.int .i64 ((k + 1 : Nat) : Int)) (w3.setCell ⟨br, 1, none⟩ (.slice (some ⟨g5, 0, none⟩) (k + 1) cap5))) := Lib.hid ⟨k + 1, _, by have := HK.out; omega, rfl, by rw [List.range_succ]; exact JNN.out⟩
      clear JNN HJ row q1 lq
      go_wp2_with fail
      go_roundg (n - (k + 1))
      case measure => have := HK.out; omega
      case rel => exact JN.out
    · obtain rfl : k = n := by omega
      have hge : ¬ (k : Int) < (k : Int) := by omega
      obtain ⟨gt, ct, rfl, hct, _, _, _, _⟩ := ownsRow_open row HN0.out
      have HJ : Hid (RnR2 w p br bs k fr tg gt ct fr.length (.int .i64 0) wr) := Lib.hid ⟨0, by omega, rfl, j⟩
      have hcti : (k : Int) ≤ (ct : Int) := by omega
      clear j row hk hlt
      go_wp2_with fail
      go_loopg [63] fr.length (fun gk s x => RnR2 w p br bs k fr tg gt ct gk s x)
      case atStart => exact HJ.out
      case round =>
        clear HJ
        obtain ⟨i, hi, rfl, j⟩ := hrel
        by_cases hlt : i < fr.length
        · have hlt2 : i < tg.length := by have := HLT.out; omega
          obtain ⟨g1, o1, c1, hv1, _, hcell⟩ := (SF.out wr j.kp).cellAt (by omega)
          have hv2 : ao = some ⟨g1, o1, none⟩ := by injection hv1
          subst hv2
          obtain ⟨g2, o2, c2, hv3, _, hcell2⟩ := (ST.out wr j.kp).cellAt (by omega)
          have hv4 : bo = some ⟨g2, o2, none⟩ := by injection hv3
          subst hv4
          have hc := hcell i (natV (fr.getD i 0)) (by simp [hlt])
          have hc2 := hcell2 i (natV (tg.getD i 0)) (by simp [hlt2])
          unfold natV at hc hc2
          have ha : fr.getD i 0 < k := FRL.out (fr.getD i 0) (by rw [List.getD_eq_getElem?_getD, List.getElem?_eq_getElem hlt]; exact List.getElem_mem hlt)
          have hu : tg.getD i 0 < k := TOL.out (tg.getD i 0) (by rw [List.getD_eq_getElem?_getD, List.getElem?_eq_getElem hlt2]; exact List.getElem_mem hlt2)
          have JP := Lib.hid (j.put (a := fr.getD i 0) (u := tg.getD i 0) (rnI_len k fr tg i))
          rw [← rnI_succ] at JP
          generalize fr.getD i 0 = a at *
          generalize tg.getD i 0 = u at *
          have q1 : wr.cell? ⟨br, 1, none⟩ = some (.slice (some ⟨gt, 0, none⟩) k ct) := by rw [cell_of_row _ _ _ _ _ _ j.str]; rfl
          have lq := heap_lt j.str
          have hr := j.row
          rw [rnI_len] at hr
          obtain ⟨g', c', hv', _, _, _, hcr, hzr⟩ := ownsRow_open hr HN0.out
          cases hv'
          have hlg := (hr.lt gt rfl).2
          have hlen : a < (rnI k fr tg i).length := by rw [rnI_len]; exact ha
          have ci := hcr a (natV (rnI k fr tg i)[a]) (by rw [List.getElem?_map, List.getElem?_eq_getElem hlen]; rfl)
          have zi := hzr a
          generalize natV (rnI k fr tg i)[a] = old at *
          have HI := Lib.hid hi
          have JN : Hid (∀ d, RnR2 w p br bs k fr tg gt ct (fr.length - (i + 1)) (.int .i64 ((i + 1 : Nat) : Int)) ((wr.setCell ⟨gt, a, none⟩ (.int .i64 (u : Int))).drewN d)) := Lib.hid (fun d => ⟨i + 1, by have := HI.out; omega, rfl, JP.out.no (Kp.drewN d)⟩)
          have hlti : (i : Int) < fr.length := by omega
          have hai : (a : Int) < (k : Int) := by omega
          clear hcell hv1 hcell2 hv3 hi j hr hcr hzr JP hu ha hlt2 hlen
          go_upto_region 12 with fail
          go_region
          go_wp2_with fail
          go_roundg (fr.length - (i + 1))
          case measure => have := HI.out; omega
          case rel => exact JN.out 1
        · obtain rfl : i = fr.length := by omega
          have hge : ¬ (fr.length : Int) < fr.length := by omega
          have hlr := rnI_len k fr tg fr.length
          have hrow := j.row
          rw [hlr] at hrow
          obtain ⟨cur, hgt, hcur⟩ : ∃ cur, wr.heap[gt]? = some (.cells cur 3 (0, 0)) ∧ ∀ v, v < k → cur[v]? = some (natV (rnT k fr tg v)) := by
            rcases hrow.2 with ⟨hx, _⟩ | ⟨g', cap', cur, hv, _, hg, h1, h2, h3, h4⟩
            · cases hx
            · cases hv
              refine ⟨cur, hg, fun v hv => ?_⟩
              have h5 : (cur.toList.take (k * 1))[v]? = some (natV (rnT k fr tg v)) := by
                rw [h4, List.getElem?_map, List.getElem?_eq_getElem (by omega)]
                show some (natV _) = some (natV _)
                unfold rnT
                rw [List.getD_eq_getElem?_getD, List.getElem?_eq_getElem (by omega)]; rfl
              rw [List.getElem?_take, if_pos (by omega)] at h5
              simpa using h5
          have off : ∀ b, w.heap.size ≤ b → ¬ L.at p b := fun b hb h => by have := RR.out.lt b h; omega
          have SKS : Hid (Sk wr p L bs (rnX p br bs gt k ct cur) (RnMemo (rnT k fr tg) bs) wr M L) := Lib.hid (by
            refine ⟨RR.out.no j.kp, Kp.refl _ _, fun _ h => .inl h, ⟨fun _ => none, ⟨#[], 0, j.mp, [], by simp, fun k => rfl⟩, fun x r h => by cases h⟩, heap_lt j.mp, off _ j.ns, fun b o hb => ?_⟩
            rcases List.mem_cons.1 hb with e | hb
            · cases e
              exact ⟨j.str, off _ j.nr, fun e => by have := j.str; rw [e, j.mp] at this; simp at this⟩
            · have e := List.mem_singleton.1 hb
              cases e
              exact ⟨hgt, off _ (hrow.lt gt rfl).1, fun e => by have := hgt; rw [e, j.mp] at this; simp at this⟩)
          have AP := Lib.hid (apply_ok (ct := ct) hcur (fun v hv => rnI_lt TOL.out fr.length (by have := HLT.out; omega) v hv) HN256.out (k + 1) M L (rnX p br bs gt k ct cur) f wr (fun _ h => h) SKS.out HNN.out SFT.out (by omega) HB.out)
          have KJ := Lib.hid j.kp
          have NS := Lib.hid j.ns
          clear hi j hlt hrow hcur hgt off hlr SKS
          go_wp2_with fail
          refine AP.out.mono ?_
          rintro e w2 ⟨M2, r, L2, rfl, s2, pr⟩
          have D2 := Lib.hid (Sk.sd KJ.out NS.out s2)
          have P2 := Lib.hid pr
          have SH := Lib.hid (show_ok r s2.rep pr.st)
          clear s2 pr AP
          go_wp2_with fail
          refine SH.out.mono ?_
          intro e w3 h3
          obtain ⟨rfl, L3, d3⟩ := D2.out.step h3
          have RET : Hid (RxPost p M L (rnT k fr tg) (M.sem f) w (.returned (.int .i64 (r : Int))) w3) := Lib.hid ⟨M2, r, d3.ret _, P2.out⟩
          clear h3 d3 D2 P2 SH
          go_wp2_with fail
          go_ret
          exact RET.out

theorem Mgr.Ren.ops {M M' : Mgr} {t : Nat → Nat} {F : Bfn} {r N : Nat} (h : M.WF) (pr : Mgr.Ren M t F M' r) (ls : Listed (M.RenF t F) N) : Mgr.OpS M (rnF t F) N (M'.show r) (r : Int) :=
  Mgr.show_ops (B := (M', r)) h pr.ad.wf pr.ad.ext pr.st pr.sem (pr.ad.len ls)
theorem RenameQ {p n c : Nat} {M : Mgr} {L : Lay} {wr : World} {B : List (Int × Bfn)} {f : Int} {F : Bfn} (R : Rep wr p M L) (b : Qk n c M B) (hf : (f, F) ∈ B) (fr tg : List Nat) (hl : fr.length = tg.length) (hll : fr.length ≤ 1000000) (hfr : ∀ v, v ∈ fr → v < n) (hto : ∀ v, v ∈ tg → v < n) (nd : fr.Nodup) (hn : n ≤ 256) (h0 : 0 < n)
    {fv tv : Value} (hd : SrcAt wr fv 1 fr.length (fr.map natV)) (hd2 : SrcAt wr tv 1 tg.length (tg.map natV)) {N : Nat} (hN : ∀ M : Mgr, M.n = n → M.Plain → Listed (M.RenF (rnT n fr tg) F) N) (hc : c + N ≤ 1000000000000) :
    Calls Try.prog 17 #[ptr p, .int .i64 f, fv, tv] wr (OpQ p n (c + N) L wr (rnF (rnT n fr tg) F) B) := by
  obtain ⟨v1, s1⟩ := b.at hf
  obtain ⟨fn, rfl, _⟩ := Mgr.valid_nat b.wf v1
  have e : M.sem fn = F := funext fun a => by rw [← s1, Int.toNat_natCast]
  have ls := hN M b.nn b.pl
  have := b.cost
  have nn := b.nn
  refine (Rename_ok fn fr tg hl hll (fun v hv => by rw [nn]; exact hfr v hv) (fun v hv => by rw [nn]; exact hto v hv) nd v1 R (by rw [nn]; exact hn) (by rw [nn]; exact h0) hd hd2 (fun M' ad => by
    rw [nn, e] at ad
    have := ad.len ls; unfold big; omega)).mono ?_
  rintro x w' ⟨M', r, ret, pr⟩
  rw [nn, e] at pr
  exact OpQ.of b (pr.ops b.wf ls) (Nat.le_refl _) ret
theorem Rename_neg {p : Nat} {M : Mgr} {L : Lay} {fv tv : Value} {ao bo : Option Addr} {n m c d : Nat} (e1 : fv = .slice ao n c) (e2 : tv = .slice bo m d) {w : World} (R : Rep w p M L) :
    Calls Try.prog 17 #[ptr p, .int .i64 (-1), fv, tv] w fun e w' => e = .returned (.int .i64 (-1)) ∧ w = w' := by
  subst e1 e2
  have VF := Lib.hid (valid_as (-1) false R (by unfold Mgr.valid; simp))
  clear R
  go_enter Try.func17, Try.ntmps17
  go_wp2_with fail
  refine VF.out.mono ?_
  rintro e w' ⟨rfl, rfl⟩
  go_wp2_with fail
  go_ret
  exact ⟨rfl, rfl⟩

end Go.Proofs.Ytngbodmooddjbaa
