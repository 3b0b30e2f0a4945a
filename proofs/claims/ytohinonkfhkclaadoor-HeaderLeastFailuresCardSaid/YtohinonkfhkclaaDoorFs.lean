/-
  Walks: 'Sets' of the package failure.
-/
import Derived.Test.YtohinonkfhkclaaDoorFc
import Derived.Test.YtohinonkfhkclaaDoorFa
import Derived.Test.YtohinonkfhkclaaDoorKeep
import Derived.Deep.DeepCutAuto
import Derived.Deep.CutBlock
namespace Go.Proofs.YtohinonkfhkclaaDoor
open Go.RowKit

theorem made_zeroI (n : Nat) : (madeCells (Value.int .i64 0).cells (n * 1)).toList = List.replicate n (.int .i64 0) := by
  apply List.ext_getElem?
  intro j
  simp only [madeCells, Nat.mul_one, Array.getElem?_toList, List.getElem?_replicate]
  by_cases hj : j < n
  · simp [hj, Value.cells, Nat.mod_one]
  · simp [hj]
theorem info_ints : (Tryd.prog.info? 28).map (fun i => (i.zero, i.size, i.bytes)) = some (some (.slice none 0 0), 1, 24) := by kernel_rfl

def SetsPost (w : World) (ls : List (List Nat)) (e : Ending) (w' : World) : Prop := ∃ v g, e = .returned (.tuple #[v, .int .i64 0]) ∧ NestB w.heap.size g w' v ls ∧ Kp No w w'

/-- A set's value in a function of the links. -/
theorem inF_enc {F : Bfn} (hF : Rd 0 12 F) (c : List Nat) : F (asg (gL (encF (dnF (c.map Int.ofNat)) pkz pkz))) = inF F c := by
  unfold inF
  refine hF _ _ (fun v _ hv => ?_)
  rw [gL_at _ (by omega), enc_link _ _ _ hv]
  unfold dnF
  rw [decide_eq_decide]
  constructor
  · intro h
    obtain ⟨x, hx, e⟩ := List.mem_map.1 h
    have : x = v := by have := e; simp only [Int.ofNat_eq_natCast] at this; omega
    subst this; exact hx
  · intro h; exact List.mem_map.2 ⟨v, h, rfl⟩
theorem nat_int_row (c : List Nat) : (c.map Int.ofNat).map intV = nRow c.length (fun u => c.getD u 0) := by
  rw [← nRow_list, List.map_map]; rfl

def SeA (w : World) (N gk : Nat) (s : Value) (wr : World) : Prop := ∃ k, k + gk = N ∧ s = .int .i64 (k : Int) ∧ Kp No w wr
def SeB (w : World) (F : Bfn) (L k gk : Nat) (s12 s13 : Value) (wr : World) : Prop :=
  ∃ s v g, s + gk = min k L + 1 ∧ s13 = .int .i64 (s : Int) ∧ v = s12 ∧ NestB w.heap.size g wr v (setsUp F L s) ∧ Kp No w wr
def SeF (w : World) (g s : Nat) (v : Value) (ls : List (List Nat)) (gk : Nat) (s57 : Value) (wr : World) : Prop :=
  ∃ i, i + gk = s ∧ s57 = .int .i64 (i : Int) ∧ wr.ownsRow g 3 1 (.slice (some ⟨g, 0, none⟩) s s) s (nRow s fun u => if u < i then u else 0) ∧ NestB w.heap.size g wr v ls ∧ Kp No w wr
def SeD (w : World) (F : Bfn) (L g s : Nat) (ls : List (List Nat)) (gk : Nat) (s12 s16 : Value) (wr : World) : Prop :=
  ∃ t v, t + gk = (combos L s).length ∧ s16 = .bool (decide (t < (combos L s).length)) ∧ v = s12 ∧ NestB w.heap.size g wr v (ls ++ ((combos L s).take t).filter (inF F)) ∧
    (∀ c, (combos L s)[t]? = some c → wr.ownsRow g 3 1 (.slice (some ⟨g, 0, none⟩) s s) s (nRow s fun u => c.getD u 0)) ∧ Kp No w wr

set_option maxRecDepth 100000 in
set_option maxHeartbeats 8000000 in
theorem Sets_ok {p c : Nat} {M : Mgr} {L : Lay} {B : List (Int × Bfn)} (f : Int) (F : Bfn) (hf : (f, F) ∈ B) (hF : Rd 0 12 F) (hsup : ∀ v, v ∈ M.supM f → v < 12) (links k : Int) (hk1 : 0 ≤ k) (hk2 : k ≤ 2) {w : World} (R : Rep w p M L) (q : Qk 220 c M B) (g : Gl w) :
    Calls Tryd.prog 17 #[ptr p, .int .i64 f, .int .i64 links, .int .i64 k] w (SetsPost w (setsL F (clN links 12) k.toNat)) := by
  obtain ⟨i0, hi0, hz0, hz1, hz2⟩ := info_parts info_int
  obtain ⟨j0, hj0, hy0, hy1, hy2⟩ := info_parts info_ints
  have hk3 : ¬ k < 0 := by omega
  have hk4 : ¬ 2 < k := by omega
  obtain ⟨K, hK⟩ : ∃ K : Nat, k = (K : Int) := ⟨k.toNat, by omega⟩
  obtain ⟨Lk, hLk⟩ : ∃ x, clN links 12 = x := ⟨_, rfl⟩
  have hL12 : Lk ≤ 12 := by rw [← hLk]; exact clN_le _ _
  have E1 := Lib.hid hLk
  subst hK
  have hK2 : K ≤ 2 := by omega
  rw [hLk, Int.toNat_natCast]
  have GLW := Lib.hid g
  have RQ := Lib.hid (And.intro R (And.intro q hf))
  have VAL := Lib.hid (ValidQ R q hf)
  have SUP := Lib.hid (Support_ok f R (by rw [q.nn]; omega))
  have HS := Lib.hid hsup
  have EVF := Lib.hid (fun cc => inF_enc hF cc)
  have hsl : (M.supM f).length ≤ 220 := by have := Mgr.supM_len M f; rw [q.nn] at this; exact this
  generalize M.supM f = sup at *
  clear hLk R q g hf hF hsup
  go_enter Tryd.func17, Tryd.ntmps17
  go_wp2_with fail
  refine VAL.out.mono ?_
  rintro e w' ⟨rfl, rfl⟩
  clear VAL
  go_wp2_with fail
  refine SUP.out.mono ?_
  rintro e wS ⟨sv, rfl, srow, ks⟩
  have KS := Lib.hid ks
  have SROW := Lib.hid (SrcAt.of_row srow)
  obtain ⟨ao, cs, rfl⟩ := row_form srow
  have A0 : Hid (SeA wS sup.length sup.length (.int .i64 0) wS) := Lib.hid ⟨0, by omega, rfl, Kp.refl _ _⟩
  clear srow ks SUP
  go_wp2_with fail
  go_loopg [33] sup.length (fun gk s x => SeA wS sup.length gk s x)
  case atStart => exact A0.out
  case round =>
    clear A0
    obtain ⟨i, hi, rfl, kp⟩ := hrel
    by_cases hlt : i < sup.length
    · obtain ⟨g1, o1, c1, hv1, _, hcell⟩ := (SROW.out.no kp).cellAt (by omega)
      have hv2 : ao = some ⟨g1, o1, none⟩ := by injection hv1
      subst hv2
      have hc := hcell i (natV (sup.getD i 0)) (by simp [hlt])
      unfold natV at hc
      have hm : sup.getD i 0 < 12 := HS.out _ (by rw [List.getD_eq_getElem?_getD, List.getElem?_eq_getElem hlt]; exact List.getElem_mem hlt)
      have hmi : ¬ (12 : Int) ≤ (sup.getD i 0 : Int) := by omega
      have JN : Hid (SeA wS sup.length (sup.length - (i + 1)) (.int .i64 ((i + 1 : Nat) : Int)) wr) := Lib.hid ⟨i + 1, by omega, rfl, kp⟩
      have hlti : (i : Int) < sup.length := by omega
      have HI := Lib.hid hi
      clear kp hcell hv1 hm hi
      generalize (sup.getD i 0 : Int) = x at *
      go_wp2_with fail
      go_roundg (sup.length - (i + 1))
      case measure => have := HI.out; omega
      case rel => exact JN.out
    · obtain rfl : i = sup.length := by omega
      have hge : ¬ (sup.length : Int) < sup.length := by omega
      have KR := Lib.hid (KS.out.trans_no kp)
      clear kp hi hlt SROW HS
      go_upto_region 9 with fail
      go_cut [2] (fun s x => s = .int .i64 (Lk : Int) ∧ x = wr)
      case first =>
        by_cases h0 : links < 0
        · have E : Hid (Lk = 0) := Lib.hid (by rw [← E1.out]; unfold clN; rw [if_pos h0])
          have h0' : (0 : Int) > links := h0
          go_wp2_with fail
          go_meet
          case rel => exact ⟨by rw [E.out]; rfl, rfl⟩
        · by_cases h1 : 12 < links
          · have E : Hid (Lk = 12) := Lib.hid (by rw [← E1.out]; unfold clN; rw [if_neg h0, if_pos (by omega)])
            have h2 : ¬ links < 0 := h0
            go_wp2_with fail
            go_meet
            case rel => exact ⟨by rw [E.out]; rfl, rfl⟩
          · have E : Hid ((Lk : Int) = links) := Lib.hid (by rw [← E1.out]; unfold clN; rw [if_neg h0, if_neg (by omega)]; omega)
            have h3 : ¬ links < 0 := h0
            go_wp2_with fail
            go_meet
            case rel => exact ⟨by rw [E.out], rfl⟩
      case rest =>
      obtain ⟨hs, hw⟩ := hcut
      replace hw := hw.symm
      subst hs hw
      have B0 : Hid (SeB w F Lk K (min K Lk + 1) (.slice none 0 0) (.int .i64 0) wr) := Lib.hid ⟨0, _, 0, by omega, rfl, rfl, by unfold setsUp; exact NestB.nil _ _ _, KR.out⟩
      have HLK := Lib.hid (And.intro hL12 hK2)
      clear E1 KR KS
      generalize wr = wA at *
      go_wp2_with fail
      go_loopg [12, 13] (min K Lk + 1) (fun gk s12 s13 x => SeB w F Lk K gk s12 s13 x)
      case atStart => exact B0.out
      case round =>
        clear B0
        obtain ⟨s, v, g0, hs, rfl, e12, nest, kp⟩ := hrel
        subst e12
        by_cases hlt : s < min K Lk + 1
        · have hsK : s ≤ K := by omega
          have hsL : s ≤ Lk := by omega
          have hs2 : s ≤ 2 := by omega
          have hsKi : (s : Int) ≤ (K : Int) := by omega
          have hsLi : (s : Int) ≤ (Lk : Int) := by omega
          have hs0 : (0 : Int) ≤ (s : Int) := by omega
          obtain ⟨w1, hmk, r1, r2⟩ := run_make_full (P := Tryd.prog) wr wr.heap.size 28 3 i0 _ 1 Tryd.underlying28 hi0 hz0 hz1 .i64 .i64 s (by rw [hz2]; omega) (by rw [maxLen_val]; omega) (Nat.le_refl _)
          have k1 : Kp No wr w1 := (Kp.grown r2).mono (fun x _ e => by cases e)
          have rz : List.replicate s (Value.int .i64 0) = nRow s (fun u => if u < 0 then u else 0) := by
            apply List.ext_getElem?
            intro u
            by_cases hu : u < s
            · rw [nRow_at _ hu, List.getElem?_replicate, if_pos hu, if_neg (by omega)]; rfl
            · rw [List.getElem?_replicate, if_neg hu, List.getElem?_eq_none (by rw [nRow_len]; omega)]
          rw [made_zeroI, rz] at r1
          have HG : Hid (w.heap.size ≤ wr.heap.size ∧ wr.heap.size < w1.heap.size) := Lib.hid ⟨kp.size, (r1.lt _ (by rfl)).2⟩
          obtain ⟨cz0, cz1, cz2⟩ := comb_zero hL12 hs2 hsL
          have F0 : Hid (SeF w wr.heap.size s v (setsUp F Lk s) s (.int .i64 0) w1) := Lib.hid ⟨0, by omega, rfl, r1, (nest.fresh (Nat.le_refl _)).no k1, kp.trans_no k1⟩
          have hsl3 := setsUp_len F hL12 s (by omega) (by omega)
          have SSU := Lib.hid (setsUp_succ F Lk s)
          have HS := Lib.hid hs
          have CZ := Lib.hid cz0
          have CAT := Lib.hid (fun t (ht : t < (combos Lk s).length) => comb_at hL12 hs2 hsL ht)
          clear r1 r2 k1 rz nest kp hs hlt cz0
          generalize wr.heap.size = gg at *
          generalize setsUp F Lk s = ls at *
          go_wp2_with fail
          go_loopg [57] s (fun gk s57 x => SeF w gg s v ls gk s57 x)
          case atStart => exact F0.out
          case round =>
            clear F0
            obtain ⟨i, hi, rfl, row, nest, kp⟩ := hrel
            by_cases hlt : i < s
            · obtain ⟨c1, z1⟩ := nRow_cell row hlt
              have JN : Hid (SeF w gg s v ls (s - (i + 1)) (.int .i64 ((i + 1 : Nat) : Int)) (wr.setCell ⟨gg, i, none⟩ (.int .i64 (i : Int)))) := Lib.hid ⟨i + 1, by omega, rfl, by
                have := ownsRow_put row i (natV i)
                rw [nRow_set, nRow_congr (g := fun u => if u < i + 1 then u else 0) (fun j _ => by
                  by_cases e : j = i
                  · subst e; rw [if_pos rfl, if_pos (by omega)]
                  · rw [if_neg e]
                    by_cases h2 : j < i
                    · rw [if_pos h2, if_pos (by omega)]
                    · rw [if_neg h2, if_neg (by omega)])] at this
                exact this, nest.kp ((Kp.setCell _ _).mono (fun _ _ e => e)), kp.trans (A' := fun x => x = gg) (fun x e => .inr (by have := HG.out.1; omega)) ((Kp.setCell _ _).mono (fun _ _ e => e))⟩
              have hlti : (i : Int) < s := by omega
              have HI := Lib.hid hi
              clear row nest kp hi
              go_wp2_with fail
              go_roundg (s - (i + 1))
              case measure => have := HI.out; omega
              case rel => exact JN.out
            · obtain rfl : i = s := by omega
              have hge : ¬ (i : Int) < i := by omega
              have D0 : Hid (SeD w F Lk gg i ls (combos Lk i).length v (.bool true) wr) := Lib.hid ⟨0, _, by omega, by rw [decide_eq_true cz2], rfl, by simpa using nest, fun c2 h2 => by
                rw [CZ.out] at h2
                injection h2 with h2
                rw [nRow_congr (g := fun u => c2.getD u 0) (fun j hj => by rw [if_pos hj, ← h2]; simp [hj])] at row
                exact row, kp⟩
              clear row nest kp hi hlt CZ
              go_wp2_with fail
              generalize i = s at *
              generalize wr = wB at *
              go_loopg [12, 16] (combos Lk s).length (fun gk s12 s16 x => SeD w F Lk gg s ls gk s12 s16 x)
              case atStart => exact D0.out
              case round =>
                clear D0
                obtain ⟨t, v2, ht, rfl, e12, nest, rowc, kp⟩ := hrel
                subst e12
                by_cases htl : t < (combos Lk s).length
                · obtain ⟨cc, ca, nxt⟩ := CAT.out t htl
                  have row := rowc cc ca.get
                  have NXT := Lib.hid nxt
                  have HT := Lib.hid ht
                  have hlen := ca.len
                  have dt : decide (t < (combos Lk s).length) = true := decide_eq_true htl
                  have htk : ((combos Lk s).take (t + 1)).filter (inF F) = ((combos Lk s).take t).filter (inF F) ++ if inF F cc then [cc] else [] := by
                    rw [List.take_add_one, ca.get, List.filter_append]; congr 1; simp [List.filter_cons]
                  have TK := Lib.hid htk
                  have LT := Lib.hid ca.lt
                  have ROW := Lib.hid row
                  have KP := Lib.hid kp
                  have lg : ((cc.map Int.ofNat).length : Nat) = s := by rw [List.length_map]; exact hlen
                  have EN : Hid (Calls Tryd.prog 32 #[.slice (some ⟨gg, 0, none⟩) s s, .agg #[.int .u32 0, .int .u32 0, .int .i64 0, .int .i64 0, .int .i64 0], .agg #[.int .u32 0, .int .u32 0, .int .i64 0, .int .i64 0, .int .i64 0]] wr (EncPost wr (encF (dnF (cc.map Int.ofNat)) pkz pkz))) := Lib.hid (Encode_ok (cc.map Int.ofNat) pkz pkz pkz_ok.in32 pkz_ok.in32 (w := wr) (dv := .slice (some ⟨gg, 0, none⟩) s s) (GLW.out.no kp) (by rw [lg, nat_int_row, hlen]; exact SrcAt.of_row row) (by rw [lg]; omega))
                  have EVC := Lib.hid (EVF.out cc)
                  have NEST := Lib.hid nest
                  obtain ⟨fl, hfl⟩ : ∃ fl, inF F cc = fl := ⟨_, rfl⟩
                  rw [hfl] at EVC TK
                  have hnl : (ls ++ ((combos Lk s).take t).filter (inF F)).length ≤ 400 := by
                    rw [List.length_append]
                    have := List.length_filter_le (inF F) ((combos Lk s).take t)
                    have := List.length_take_le t (combos Lk s)
                    omega
                  have hcl0 : ∀ u, u < s → cc.getD u 0 ≤ 1000 := fun u hu => by
                    have := LT.out (cc.getD u 0) (by rw [List.getD_eq_getElem?_getD, List.getElem?_eq_getElem (by omega)]; exact List.getElem_mem _)
                    omega
                  have HCL := Lib.hid hcl0
                  clear row rowc nest kp nxt ca ht htk lg hfl hcl0
                  go_wp2_with fail
                  refine Calls.mono EN.out ?_
                  rintro e wa ⟨ga, rfl, rowa, ka⟩
                  have EV := Lib.hid (EvalQ (RQ.out.1.no (KP.out.trans_no ka)) RQ.out.2.1 RQ.out.2.2 (bools_row rowa))
                  rw [EVC.out] at EV
                  have KA := Lib.hid ka
                  clear rowa ka EN EVC
                  go_wp2_with fail
                  refine EV.out.mono ?_
                  rintro e wb ⟨rfl, kb⟩
                  have KAB := Lib.hid (KA.out.trans_no kb)
                  have NB := Lib.hid (NEST.out.no KAB.out)
                  have ROWB := Lib.hid (ownsRow_kp ROW.out KAB.out (fun _ _ x => x))
                  have KPB := Lib.hid (KP.out.trans_no KAB.out)
                  clear kb KA KAB NEST ROW KP EV
                  cases fl
                  · have NZ : Hid (NestB w.heap.size gg wb v2 (ls ++ ((combos Lk s).take (t + 1)).filter (inF F))) := Lib.hid (by rw [TK.out, if_neg (by simp), List.append_nil]; exact NB.out)
                    have KZ : Hid (Kp No w wb) := Lib.hid KPB.out
                    have ADV := Lib.hid (advance_ok gg gg s s Lk (fun u => cc.getD u 0) (by omega) (by omega) HCL.out ROWB.out)
                    go_wp2_with fail
                    refine ADV.out.mono ?_
                    intro e w4 AP
                    obtain ⟨kx, post⟩ := AP
                    have NY : Hid (NestB w.heap.size gg w4 v2 (ls ++ ((combos Lk s).take (t + 1)).filter (inF F))) := Lib.hid (NZ.out.kp kx)
                    have KY : Hid (Kp No w w4) := Lib.hid (KZ.out.trans (A' := fun x => x = gg) (fun x e => .inr (by have := HG.out.1; omega)) kx)
                    cases hadv : advI Lk s (fun u => cc.getD u 0) s with
                    | none =>
                      rw [hadv] at post
                      obtain ⟨rfl, rw4⟩ := post
                      have hend : t + 1 = (combos Lk s).length := by have := NXT.out; rw [hadv] at this; exact this
                      have JN : Hid (SeD w F Lk gg s ls ((combos Lk s).length - (t + 1)) v2 (.bool false) w4) := Lib.hid ⟨t + 1, _, by omega, by rw [decide_eq_false (by omega)], rfl, NY.out, fun c2 h2 => (by rw [List.getElem?_eq_none (by omega)] at h2; cases h2), KY.out⟩
                      clear rw4 NY KY kx hadv
                      go_wp2_with fail
                      go_roundg ((combos Lk s).length - (t + 1))
                      case measure => have := HT.out; omega
                      case rel => exact JN.out
                    | some i =>
                      rw [hadv] at post
                      obtain ⟨rfl, rw4⟩ := post
                      have hnx : (combos Lk s)[t + 1]? = some ((List.range s).map (advF (fun u => cc.getD u 0) i)) := by have := NXT.out; rw [hadv] at this; exact this
                      have hlt1 : t + 1 < (combos Lk s).length := (List.getElem?_eq_some_iff.1 hnx).1
                      have JN : Hid (SeD w F Lk gg s ls ((combos Lk s).length - (t + 1)) v2 (.bool true) w4) := Lib.hid ⟨t + 1, _, by omega, by rw [decide_eq_true hlt1], rfl, NY.out, fun c2 h2 => by
                        rw [hnx] at h2
                        injection h2 with h2
                        rw [nRow_congr (g := advF (fun u => cc.getD u 0) i) (fun u hu => by rw [← h2]; simp [hu])]
                        exact rw4, KY.out⟩
                      clear rw4 NY KY kx hadv hnx hlt1
                      go_wp2_with fail
                      go_roundg ((combos Lk s).length - (t + 1))
                      case measure => have := HT.out; omega
                      case rel => exact JN.out
                  · have SRC := Lib.hid (SrcAt.of_row ROWB.out)
                    have HONE : Hid (∀ u ∈ nRow s (fun u => cc.getD u 0), u.oneCell' = true) := Lib.hid (fun u hu => by unfold nRow at hu; obtain ⟨b, _, rfl⟩ := List.mem_map.1 hu; rfl)
                    obtain ⟨vs, n1, n2, n3, n4⟩ := NB.out
                    have hwb : w.heap.size ≤ wb.heap.size := KPB.out.size
                    obtain ⟨N0, hN0⟩ : ∃ N0, N0 = (ls ++ ((combos Lk s).take t).filter (inF F)).length := ⟨_, rfl⟩
                    rw [← hN0] at n2 hnl
                    have HN := Lib.hid hN0
                    have N1 := Lib.hid n1
                    have N34 := Lib.hid (And.intro n3 n4)
                    clear hN0 n1 n3 n4
                    go_upto_region 22 with (first | (at_builtin; refine wpList_append_src rfl _ _ rfl (base := w.heap.size) (v := .slice none 0 0) Tryd.underlying28 hi0 hz0 hz1 hz2 rfl (by omega) rfl (World.ownsRow_nil _ _ _ _) rfl SRC.out HONE.out (by unfold maxLen; omega) (by omega) hwb ?_; intro vc wc hown0 hgrow hat; have hown : wc.ownsRow w.heap.size 3 1 vc s (nRow s fun u => cc.getD u 0) := (by simpa using hown0); obtain ⟨a2, c2, rfl⟩ := row_form hown; have k2 : Kp No wb wc := (Kp.grown hgrow).mono (fun x _ h => by simp [Value.ownBlock] at h); have NC := Lib.hid (ownsRow_kp n2 k2 (fun _ _ x => x)); have ksz : wb.heap.size ≤ wc.heap.size := k2.size) | (at_builtin; (refine wpList_append_lies _ rfl (.tmp 76) (.tmp 79) _ rfl w.heap.size 28 j0 _ 1 24 Tryd.underlying27 hj0 hy0 hy1 hy2 rfl (by omega) v2 N0 vs rfl (NC.out.alloc _) ⟨wc.heap.size, 0, none⟩ 1 1 [.slice a2 s c2] rfl rfl (World.news_of_block (heap_alloc_new _ _)) (by simp [Value.oneCell']) (by omega) (by unfold maxLen; omega) (by omega) (by simp; omega) (wc.heap.size + 1) (by simp) ?_; intro g5 cap5 w3 hown5 hgrow5 hat5 hlt5)))
                    have hgw : gg < wb.heap.size := (ROWB.out.lt gg rfl).2
                    have kg5 : Kp (fun z => v2.ownBlock = some z) wc w3 := grown_no (Kp.alloc _) hgrow5
                    have PU : NestB w.heap.size gg w3 (.slice (some ⟨g5, 0, none⟩) (N0 + 1) cap5) ((ls ++ ((combos Lk s).take t).filter (inF F)) ++ [cc]) :=
                      NestB.push HN.out N1.out N34.out.1 (fun i x hx => ⟨(N34.out.2 i x hx).1, ownsRow_kp (N34.out.2 i x hx).2.1 k2 (fun _ _ z => z), (N34.out.2 i x hx).2.2⟩) (by have := NC.out; rw [HN.out] at this; exact this) (c := cc) (x := .slice a2 s c2) (by rw [nRow_list, hlen]; exact hown) rfl (fun k hk => by
                        rcases hat with h | h
                        · rw [h] at hk; cases hk
                        · rw [h] at hk; injection hk with hk; omega) (Kp.alloc _) hown5 hgrow5 (by simpa using hat5) (by simp; omega)
                    have NZ : Hid (NestB w.heap.size gg w3 (.slice (some ⟨g5, 0, none⟩) (N0 + 1) cap5) (ls ++ ((combos Lk s).take (t + 1)).filter (inF F))) := Lib.hid (by rw [TK.out]; simp only [if_true, ← List.append_assoc]; exact PU)
                    have KZ : Hid (Kp No w w3) := Lib.hid ((KPB.out.trans_no k2).trans (A' := fun z => v2.ownBlock = some z) (fun z hz => .inr (n2.lt z hz).1) kg5)
                    have ROWZ := Lib.hid (ownsRow_kp (ownsRow_kp ROWB.out k2 (fun _ _ z => z)) kg5 (fun k hk hv => by simp [Value.ownBlock] at hk; exact N34.out.1 k hv hk.symm))
                    have ADV := Lib.hid (advance_ok gg gg s s Lk (fun u => cc.getD u 0) (by omega) (by omega) HCL.out ROWZ.out)
                    clear hown hown0 hgrow hat k2 NC N1 n2 N34 hown5 hgrow5 hat5 hlt5 kg5 PU hgw ksz SRC HONE NB ROWB KPB
                    generalize N0 + 1 = nn at *
                    go_wp2_with fail
                    refine ADV.out.mono ?_
                    intro e w4 AP
                    obtain ⟨kx, post⟩ := AP
                    have NY : Hid (NestB w.heap.size gg w4 (.slice (some ⟨g5, 0, none⟩) nn cap5) (ls ++ ((combos Lk s).take (t + 1)).filter (inF F))) := Lib.hid (NZ.out.kp kx)
                    have KY : Hid (Kp No w w4) := Lib.hid (KZ.out.trans (A' := fun x => x = gg) (fun x e => .inr (by have := HG.out.1; omega)) kx)
                    cases hadv : advI Lk s (fun u => cc.getD u 0) s with
                    | none =>
                      rw [hadv] at post
                      obtain ⟨rfl, rw4⟩ := post
                      have hend : t + 1 = (combos Lk s).length := by have := NXT.out; rw [hadv] at this; exact this
                      have JN : Hid (SeD w F Lk gg s ls ((combos Lk s).length - (t + 1)) (.slice (some ⟨g5, 0, none⟩) nn cap5) (.bool false) w4) := Lib.hid ⟨t + 1, _, by omega, by rw [decide_eq_false (by omega)], rfl, NY.out, fun c2 h2 => (by rw [List.getElem?_eq_none (by omega)] at h2; cases h2), KY.out⟩
                      clear rw4 NY KY kx hadv
                      go_wp2_with fail
                      go_roundg ((combos Lk s).length - (t + 1))
                      case measure => have := HT.out; omega
                      case rel => exact JN.out
                    | some i =>
                      rw [hadv] at post
                      obtain ⟨rfl, rw4⟩ := post
                      have hnx : (combos Lk s)[t + 1]? = some ((List.range s).map (advF (fun u => cc.getD u 0) i)) := by have := NXT.out; rw [hadv] at this; exact this
                      have hlt1 : t + 1 < (combos Lk s).length := (List.getElem?_eq_some_iff.1 hnx).1
                      have JN : Hid (SeD w F Lk gg s ls ((combos Lk s).length - (t + 1)) (.slice (some ⟨g5, 0, none⟩) nn cap5) (.bool true) w4) := Lib.hid ⟨t + 1, _, by omega, by rw [decide_eq_true hlt1], rfl, NY.out, fun c2 h2 => by
                        rw [hnx] at h2
                        injection h2 with h2
                        rw [nRow_congr (g := advF (fun u => cc.getD u 0) i) (fun u hu => by rw [← h2]; simp [hu])]
                        exact rw4, KY.out⟩
                      clear rw4 NY KY kx hadv hnx hlt1
                      go_wp2_with fail
                      go_roundg ((combos Lk s).length - (t + 1))
                      case measure => have := HT.out; omega
                      case rel => exact JN.out
                · obtain ⟨rfl⟩ : t = (combos Lk s).length := by omega
                  have df : decide ((combos Lk s).length < (combos Lk s).length) = false := decide_eq_false (by omega)
                  have BN : Hid (SeB w F Lk K (min K Lk + 1 - (s + 1)) v2 (.int .i64 ((s + 1 : Nat) : Int)) wr) := Lib.hid ⟨s + 1, _, gg, by have := HS.out; omega, rfl, rfl, by
                    rw [SSU.out]
                    rw [List.take_length] at nest
                    exact nest, kp⟩
                  clear nest rowc kp ht htl
                  go_wp2_with fail
                  go_roundg (min K Lk + 1 - (s + 1))
                  case measure => have := HS.out; omega
                  case rel => exact BN.out
        · have FIN : Hid (SetsPost w (setsL F Lk K) (.returned (.tuple #[v, .int .i64 0])) wr) := Lib.hid ⟨v, g0, rfl, by
            unfold setsL
            rw [show min K Lk + 1 = s by omega]
            exact nest, kp⟩
          have hcd : (s : Int) ≤ (K : Int) → ¬ (s : Int) ≤ (Lk : Int) := fun h1 h2 => by omega
          clear nest kp hs hlt
          by_cases h1 : (s : Int) ≤ (K : Int)
          · have h2 := hcd h1
            clear hcd
            go_wp2_with fail
            refine bodyPost_ret (v := .tuple #[v, .int .i64 0]) ?_ rfl FIN.out
            simp [results, Tryd.results17, go_sem]
          · clear hcd
            go_wp2_with fail
            refine bodyPost_ret (v := .tuple #[v, .int .i64 0]) ?_ rfl FIN.out
            simp [results, Tryd.results17, go_sem]

end Go.Proofs.YtohinonkfhkclaaDoor
