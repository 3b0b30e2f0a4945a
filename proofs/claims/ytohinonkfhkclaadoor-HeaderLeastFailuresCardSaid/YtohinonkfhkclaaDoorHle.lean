/-
  Walks: 'Least' of the package quant at a set that reads more; 'Least' of the package header.
-/
import Derived.Test.YtohinonkfhkclaaDoorLx
namespace Go.Proofs.YtohinonkfhkclaaDoor
open Go.RowKit

theorem aL_snoc : ∀ (vs : List Nat) (xs : List Bool) (a : Nat → Bool) (v : Nat) (x : Bool), vs.length = xs.length → aL (vs ++ [v]) (xs ++ [x]) a = Mgr.upd (aL vs xs a) v x
  | [], [], _, _, _, _ => rfl
  | [], _ :: _, _, _, _, h => by cases h
  | _ :: _, [], _, _, _, h => by cases h
  | u :: vs, y :: xs, a, v, x, h => by
    simp only [List.cons_append, aL]
    exact aL_snoc vs xs _ v x (by simpa using h)
/-- The row of the values after i variables. -/
def plG (vs : List Nat) (ls : List Bool) (i : Nat) : Nat → Bool := aL (vs.take i) (ls.take i) (fun _ => false)
theorem plG_zero (vs : List Nat) (ls : List Bool) : plG vs ls 0 = fun _ => false := rfl
theorem plG_succ {vs : List Nat} {ls : List Bool} (h : ls.length = vs.length) {i : Nat} (hi : i < vs.length) : Mgr.upd (plG vs ls i) (vs.getD i 0) (ls.getD i false) = plG vs ls (i + 1) := by
  unfold plG
  rw [List.take_succ_eq_append_getElem hi, List.take_succ_eq_append_getElem (by omega : i < ls.length), aL_snoc _ _ _ _ _ (by simp; omega)]
  simp [hi, h]
theorem plG_end (vs : List Nat) (ls : List Bool) (h : ls.length = vs.length) : plG vs ls vs.length = aL vs ls (fun _ => false) := by
  unfold plG
  rw [List.take_length, ← h, List.take_length]

set_option maxRecDepth 100000 in
set_option maxHeartbeats 1000000 in
theorem Least_bad {p : Nat} {M : Mgr} {L : Lay} (f : Int) (vs : List Nat) (hl : vs.length ≤ 1000000) (hlv : ∀ v, v ∈ vs → v < M.n) (hf : M.valid f = true) (hne : f ≠ 0) (hsup : ¬ ∀ v, v ∈ M.supM f → v ∈ vs) {dv : Value} {w : World} (R : Rep w p M L) (hn : M.n ≤ 256) (hd : SrcAt w dv 1 vs.length (vs.map natV)) :
    Calls Tryd.prog 65 #[ptr p, .int .i64 f, dv] w fun e w' => e = .returned (.tuple #[.slice none 0 0, .bool false]) ∧ Kp No w w' := by
  have CM := Lib.hid (complete_ok f vs hl hlv hf R hn hd false ⟨fun h => (by cases h), fun h => absurd h.2 hsup⟩)
  obtain ⟨ao, cp, rfl⟩ := hd.form
  have hfz : (f == 0) = false := by simpa using hne
  clear hlv hf hsup R hn hd
  go_enter Tryd.func65, Tryd.ntmps65
  go_wp2_with fail
  refine CM.out.mono ?_
  rintro e w1 ⟨rfl, k1⟩
  have K1 := Lib.hid k1
  clear k1 CM
  go_wp2_with fail
  refine bodyPost_ret (v := .tuple #[.slice none 0 0, .bool false]) (by simp [results, Tryd.results65, go_sem]) rfl ⟨rfl, K1.out⟩

def HlPost (w : World) (p : Nat) (L : Lay) (c : Nat) (B : List (Int × Bfn)) (A : Nat → Bool) (e : Ending) (w' : World) : Prop :=
  ∃ dv M', Ret p L w M' (.tuple #[dv, pktV (getP A false), .bool true]) e w' ∧ Qk 220 c M' B ∧ w'.ownsRow w.heap.size 3 1 dv (dnL A 12).length ((dnL A 12).map natV)
/-- The links are appended. -/
def HlA (w : World) (gk : Nat) (s7 s17 : Value) (x : World) : Prop := ∃ k v, k + gk = 12 ∧ s17 = .int .i64 (k : Int) ∧ v = s7 ∧ x.ownsRow w.heap.size 3 1 v (List.range k).length ((List.range k).map natV) ∧ Kp No w x
/-- The values are put in. -/
def HlB (w : World) (vs : List Nat) (ls : List Bool) (gk : Nat) (s41 : Value) (x : World) : Prop := ∃ i, i + gk = 116 ∧ s41 = .int .i64 (i : Int) ∧ PutJ w w.heap.size w.heap.size (plG vs ls i) x

set_option maxRecDepth 100000 in
set_option maxHeartbeats 4000000 in
theorem HLeast_ok {p c s : Nat} {M : Mgr} {L : Lay} {B : List (Int × Bfn)} {f : Int} {F : Bfn} {w : World} (R : Rep w p M L) (b : Qk 220 c M B) (g : Gl w) (ho : ¬ L.at p 0) (hf : (f, F) ∈ B) (hne : f ≠ 0) (ps : PSt 220 F s) (hF : ∀ v, v < 220 → 12 ≤ v → v % 2 = 1 → ∀ a, F (Mgr.upd a v false) = F (Mgr.upd a v true)) (hc : c + 116 * (2 * (220 * s)) ≤ 1000000000000) :
    Calls Tryd.prog 36 #[ptr p, .int .i64 f] w (HlPost w p L (c + 116 * (2 * (220 * s))) B (asg (gL (aL hlV (lsV F hlV) (fun _ => false))))) := by
  obtain ⟨i0, hi0, hz0, hz1, hz2⟩ := info_parts info_int
  obtain ⟨mk, hmk⟩ := Classical.axiomOfChoice make_bools
  have HMK := Lib.hid (fun W => (hmk W).2)
  have hrun := fun W => (hmk W).1
  have sup : ∀ v, v ∈ M.supM f → v ∈ hlV := fun v hv => by
    obtain ⟨hv1, hs⟩ := b.at hf
    obtain ⟨k, rfl, sk, _⟩ := Mgr.valid_nat b.wf hv1
    have e : M.sem k = F := funext fun x => by have := hs x; rw [Int.toNat_natCast] at this; exact this
    unfold Mgr.supM at hv
    rw [if_pos hv1, Int.toNat_natCast] at hv
    obtain ⟨hvn, a, ha⟩ := (Mgr.supp_iff b.wf sk v).1 hv
    rw [b.nn] at hvn
    rw [e] at ha
    by_cases h : 12 ≤ v ∧ v % 2 = 1
    · exact (ha (hF v hvn h.1 h.2 a)).elim
    · exact mem_hlV.2 ⟨by omega, by omega⟩
  have GLW := Lib.hid g
  have RL := Lib.hid R.lt
  have H0 := Lib.hid (Hf.start R b g ho)
  have HV := Lib.hid (fun (y : World) => hvars_ok false y)
  have HC := Lib.hid (one_ints (hvK false 104))
  have LO : Hid (∀ (y : World) (a : Option Addr) (cc : Nat), Kp No w y → SrcAt y (.slice a 116 cc) 1 116 (hlV.map natV) → (∀ g o m c', Value.slice a 116 cc = .slice (some ⟨g, o, none⟩) m c' → ¬ L.at p g) → Calls Tryd.prog 65 #[ptr p, .int .i64 f, .slice a 116 cc] y (LePost y p L 220 (c + 116 * (2 * (220 * s))) B (lsV F hlV))) := Lib.hid (fun y a cc ky hd ho => by
    have := Least_ok hlV hlV_nodup (by rw [hlV_len]; omega) (fun v hv => (mem_hlV.1 hv).1) (R.no ky) b hf hne ps (by omega) sup (by rw [hlV_len]; exact hd) ho (by rw [hlV_len]; exact hc)
    rw [hlV_len] at this
    exact this)
  have EF : Hid (hlV.map natV = (List.range 12).map natV ++ (hvK false 104).map natV) := Lib.hid (List.map_append)
  have LSL : Hid ((lsV F hlV).length = 116) := Lib.hid (by rw [lsV_len, hlV_len])
  have VL := Lib.hid hlV_len
  have VM : Hid (∀ i, i < 116 → hlV.getD i 0 < 220) := Lib.hid (fun i hi => by
    have hl : i < hlV.length := by rw [hlV_len]; exact hi
    rw [List.getD_eq_getElem?_getD, List.getElem?_eq_getElem hl]
    exact (mem_hlV.1 (List.getElem_mem hl)).1)
  have PLE : Hid (plG hlV (lsV F hlV) 116 = aL hlV (lsV F hlV) (fun _ => false)) := Lib.hid (by rw [← hlV_len]; exact plG_end _ _ (lsV_len _ _))
  clear R b g ho hf hne ps hF hc sup hmk
  generalize hvn : hvK false 104 = hk at *
  generalize lsV F hlV = ls at *
  generalize hlV = vs at *
  clear hvn
  generalize c + 116 * (2 * (220 * s)) = c1 at *
  go_enter Tryd.func36, Tryd.ntmps36
  have KW := Lib.hid (Kp.alloc (w := w) (.cells zeroPkt 48))
  have R0 : Hid ((w.alloc (.cells zeroPkt 48)).heap[w.heap.size]? = some (.cells zeroPkt 48 (0, 0))) := Lib.hid (heap_alloc_new w (.cells zeroPkt 48))
  have HSZ : Hid ((w.alloc (.cells zeroPkt 48)).heap.size = w.heap.size + 1) := Lib.hid (by simp)
  go_wp2_with fail
  change Code.wp _ _ _ _ (w.alloc (.cells zeroPkt 48))
  generalize w.alloc (.cells zeroPkt 48) = wB at *
  have J0 : Hid (HlA wB 12 (.slice none 0 0) (.int .i64 0) wB) := Lib.hid ⟨0, _, by omega, rfl, rfl, World.ownsRow_nil _ _ _ _, Kp.refl _ _⟩
  go_loopg [7, 17] 12 (fun gk s7 s17 x => HlA wB gk s7 s17 x)
  case atStart => exact J0.out
  case round =>
    clear J0
    obtain ⟨k, v, hk2, rfl, e7, row, kp⟩ := hrel
    subst e7
    by_cases hlt : k < 12
    · have HK := Lib.hid hk2
      have KP := Lib.hid kp
      have ROW := Lib.hid row
      have hsz := kp.size
      have hln : (List.range k).length ≤ 12 := by rw [List.length_range]; omega
      have SN := Lib.hid (List.range_succ (n := k))
      have hlti : (k : Int) < 12 := by omega
      clear hk2 kp
      generalize List.range k = lst at *
      go_upto_region 6 with (at_builtin; refine wpList_append_lies _ rfl (.tmp 20) (.tmp 22) _ rfl wB.heap.size 3 i0 _ 1 8 Tryd.underlying28 hi0 hz0 hz1 hz2 rfl (by omega) v lst.length (lst.map natV) rfl (row.alloc _) ⟨wr.heap.size, 0, none⟩ 1 1 [.int .i64 (k : Int)] rfl rfl (World.news_of_block (heap_alloc_new _ _)) (by simp [Value.oneCell']) (by omega) (by unfold maxLen; omega) (by omega) (by simp; omega) (wr.heap.size + 1) (by simp) ?_; intro g5 cap5 w3 hown hgrow hat hlt2)
      have JN : Hid (HlA wB (12 - (k + 1)) (.slice (some ⟨g5, 0, none⟩) (lst.length + 1) cap5) (.int .i64 ((k + 1 : Nat) : Int)) w3) := Lib.hid (by
        have kg : Kp (fun z => v.ownBlock = some z) wr w3 := grown_no (Kp.alloc _) hgrow
        refine ⟨k + 1, _, by omega, rfl, rfl, ?_, KP.out.trans (A' := fun z => v.ownBlock = some z) (fun z hz => .inr (ROW.out.lt z hz).1) kg⟩
        rw [SN.out, List.length_append, List.map_append]
        exact hown)
      clear hown hgrow hat hlt2 row
      go_wp2_with fail
      go_roundg (12 - (k + 1))
      case measure => have := HK.out; omega
      case rel => exact JN.out
    · obtain rfl : k = 12 := by omega
      rw [List.length_range] at row
      obtain ⟨a7, c7, rfl⟩ := rowForm row
      have R7 := Lib.hid row
      have K7 := Lib.hid kp
      clear row kp hk2 hlt
      go_wp2_with fail
      refine (HV.out wr).mono ?_
      rintro e w1 ⟨a8, c8, rfl, r8, k8⟩
      have R7' := Lib.hid (ownsRow_kp R7.out k8 (fun _ _ x => x))
      have S8 := Lib.hid (SrcAt.of_row r8)
      have hsz1 : wB.heap.size ≤ w1.heap.size := by have := K7.out.size; have := k8.size; omega
      have K8 := Lib.hid (K7.out.trans_no k8)
      clear r8 k8 R7 K7 HV
      go_upto_region 8 with (at_builtin; refine wpList_append_src rfl _ _ rfl (base := wB.heap.size) (v := .slice a7 12 c7) Tryd.underlying28 hi0 hz0 hz1 hz2 rfl (by omega) rfl R7'.out rfl S8.out HC.out (by unfold maxLen; omega) (by omega) hsz1 ?_; intro v1 w2 hown1 hgrow1 hat1)
      obtain ⟨a9, c9, rfl⟩ := rowForm hown1
      have KB : Hid (Kp No wB w2) := Lib.hid (K8.out.trans (A' := fun z => (Value.slice a7 12 c7).ownBlock = some z) (fun z hz => .inr (R7'.out.lt z hz).1) (Kp.grown hgrow1))
      have R9 : Hid (w2.ownsRow wB.heap.size 3 1 (.slice a9 116 c9) 116 (vs.map natV)) := Lib.hid (by rw [EF.out]; exact hown1)
      have OFF9 : Hid (∀ g o m c', Value.slice a9 116 c9 = .slice (some ⟨g, o, none⟩) m c' → wB.heap.size ≤ g ∧ g < w2.heap.size) := Lib.hid (fun g o m c' e => by
        cases e
        exact R9.out.lt g rfl)
      have LO1 := Lib.hid (LO.out w2 a9 c9 (KW.out.trans_no KB.out) (SrcAt.of_row R9.out) (fun g o m c' e h => by
        have h1 := (OFF9.out g o m c' e).1; have h2 := RL.out g h; have h3 := HSZ.out; omega))
      clear hown1 hgrow1 hat1 R7' S8 K8 hsz1 LO HC
      go_wp2_with fail
      refine LO1.out.mono ?_
      rintro e w3 ⟨a10, c10, M3, ret, qk, row⟩
      rw [LSL.out] at ret row
      have H2 := Lib.hid ((H0.out.no KW.out).rebase.no KB.out)
      have KP3 : Hid (Kp (L.at p) w2 w3) := Lib.hid (by obtain ⟨_, _, _, kp3, _⟩ := ret; exact kp3)
      obtain ⟨rfl, L3, h3⟩ := H2.out.ret_step ret qk
      have H3 := Lib.hid h3
      have NB : Hid (¬ L.at p w.heap.size) := Lib.hid (fun h => by have := RL.out _ h; omega)
      have S9 : Hid (SrcAt w3 (.slice a9 116 c9) 1 116 (vs.map natV)) := Lib.hid ((SrcAt.of_row R9.out).kp KP3.out (fun _ g o m c' e h => by
        have h1 := (OFF9.out g o m c' e).1; have h2 := RL.out g h; have h3 := HSZ.out; omega))
      have hs23 := KP3.out.size
      have R03 : Hid (w3.heap[w.heap.size]? = some (.cells zeroPkt 48 (0, 0))) := Lib.hid (by
        have h1 := heap_lt R0.out
        have h2 := KB.out.size
        rw [KP3.out.block _ (by omega) NB.out, KB.out.block _ h1 (fun x => x)]
        exact R0.out)
      have ROW := Lib.hid row
      clear ret qk h3 row LO1 H0 H2 R0
      obtain ⟨r1, k1⟩ := HMK.out w3
      have J1 : Hid (HlB w3 vs ls 116 (.int .i64 0) (mk w3)) := Lib.hid ⟨0, by omega, rfl, r1, k1.of_no, H3.out.gl.no k1, fun e => by have := H3.out.gl.lt; omega⟩
      obtain ⟨g1, o1, q1, hv1, _, _⟩ := S9.out.cellAt (by omega)
      obtain rfl : a9 = some ⟨g1, o1, none⟩ := by injection hv1
      obtain ⟨g2, o2, q2, hv2, _, _⟩ := (SrcAt.of_row ROW.out).cellAt (by omega)
      obtain rfl : a10 = some ⟨g2, o2, none⟩ := by injection hv2
      have CV : Hid (∀ y, Kp (fun z => z = w3.heap.size) w3 y → ∀ i, i < 116 → y.cell? ⟨g1, o1 + i, none⟩ = some (.int .i64 ((vs.getD i 0 : Nat) : Int)) ∧ y.cell? ⟨g2, o2 + i, none⟩ = some (.bool (ls.getD i false))) := Lib.hid (fun y ky i hi => by
        have lv := VL.out
        have ll := LSL.out
        obtain ⟨g1', o1', q1', hv1', _, hc1⟩ := (S9.out.kp ky (fun _ g o m c' e h => by
          subst h; have := (OFF9.out _ o m c' e).2; omega)).cellAt (by omega)
        obtain ⟨g2', o2', q2', hv2', _, hc2⟩ := ((SrcAt.of_row ROW.out).kp ky (fun _ g o m c' e h => by
          subst h; cases e; have := (ROW.out.lt _ rfl).2; omega)).cellAt (by omega)
        have e1 : some (⟨g1, o1, none⟩ : Addr) = some ⟨g1', o1', none⟩ := by injection hv1'
        have e2 : some (⟨g2, o2, none⟩ : Addr) = some ⟨g2', o2', none⟩ := by injection hv2'
        cases e1; cases e2
        exact ⟨hc1 i _ (by simp [lv, hi, natV]), hc2 i _ (by simp [ll, hi])⟩)
      have LL := Lib.hid LSL.out
      clear hv1 hv2 r1 k1 S9 ROW OFF9 R9 LSL HMK
      go_wp2_with fail
      go_loopg [41] 116 (fun gk s x => HlB w3 vs ls gk s x)
      case atStart => exact J1.out
      case round =>
        clear J1
        obtain ⟨i, hi, rfl, j⟩ := hrel
        by_cases hlt : i < 116
        · have HI := Lib.hid hi
          obtain ⟨cv, cl⟩ := CV.out wr j.kp i hlt
          have hv := VM.out i hlt
          obtain ⟨old, fz⟩ := j.cell hv
          have JP : Hid (PutJ w3 w3.heap.size w3.heap.size (plG vs ls (i + 1)) (wr.setCell ⟨w3.heap.size, vs.getD i 0, none⟩ (.bool (ls.getD i false)))) := Lib.hid (by
            rw [← plG_succ (by have := VL.out; have := LL.out; omega) (by have := VL.out; omega)]
            exact j.put _ _)
          have hvi : ((vs.getD i 0 : Nat) : Int) < 220 := by omega
          have hlti : (i : Int) < 116 := by omega
          clear hi j
          generalize vs.getD i 0 = v at *
          generalize ls.getD i false = x at *
          go_wp2_with fail
          go_roundg (116 - (i + 1))
          case measure => have := HI.out; omega
          case rel => exact ⟨i + 1, by have := HI.out; omega, rfl, JP.out⟩
        · obtain rfl : i = 116 := by omega
          have DE := Lib.hid (Decode_ok j.gl (bools_row j.row))
          rw [PLE.out] at DE
          have K34 := Lib.hid j.kp
          clear j hi hlt
          go_wp2_with fail
          refine DE.out.mono ?_
          rintro e w5 ⟨dv, rfl, drow, k5⟩
          obtain ⟨pk, hpk⟩ : ∃ pk, getP (asg (gL (aL vs ls fun _ => false))) false = pk := ⟨_, rfl⟩
          obtain ⟨qk, hqk⟩ : ∃ qk, getP (asg (gL (aL vs ls fun _ => false))) true = qk := ⟨_, rfl⟩
          rw [hpk, hqk]
          have HPK := Lib.hid hpk
          have hs3 := heap_lt R03.out
          have hs35 : w3.heap.size ≤ w5.heap.size := Nat.le_trans K34.out.size k5.size
          have R05 : Hid (w5.heap[w.heap.size]? = some (.cells zeroPkt 48 (0, 0))) := Lib.hid (by
            rw [k5.block _ (by have := K34.out.size; omega) (fun x => x), K34.out.block _ hs3 (by omega)]
            exact R03.out)
          have K35 : Hid (Kp (fun z => z = w3.heap.size) w3 w5) := Lib.hid (K34.out.trans_no k5)
          have DR := Lib.hid drow
          have KWR : Hid (w.heap.size < wr.heap.size) := Lib.hid (by have := K34.out.size; omega)
          have K56 : Hid (Kp No w5 ((w5.alloc (.cells #[.int .u32 (pk.src : Int), .int .u32 (pk.dst : Int), .int .i64 pk.proto, .int .i64 pk.sport, .int .i64 pk.dport] 48)).alloc (.cells #[.int .u32 (qk.src : Int), .int .u32 (qk.dst : Int), .int .i64 qk.proto, .int .i64 qk.sport, .int .i64 qk.dport] 48))) := Lib.hid ((Kp.alloc _).trans_no (Kp.alloc _))
          have PA : Hid (PkAt ((w5.alloc (.cells #[.int .u32 (pk.src : Int), .int .u32 (pk.dst : Int), .int .i64 pk.proto, .int .i64 pk.sport, .int .i64 pk.dport] 48)).alloc (.cells #[.int .u32 (qk.src : Int), .int .u32 (qk.dst : Int), .int .i64 qk.proto, .int .i64 qk.sport, .int .i64 qk.dport] 48)) w5.heap.size pk) := Lib.hid ((PkAt.new w5 pk 48).no (Kp.alloc _))
          clear hpk hqk drow k5 DE K34 R03
          unfold pktV
          go_upto_region 18 with fail
          generalize (w5.alloc (.cells #[.int .u32 (pk.src : Int), .int .u32 (pk.dst : Int), .int .i64 pk.proto, .int .i64 pk.sport, .int .i64 pk.dport] 48)).alloc (.cells #[.int .u32 (qk.src : Int), .int .u32 (qk.dst : Int), .int .i64 qk.proto, .int .i64 qk.sport, .int .i64 qk.dport] 48) = w6 at *
          obtain ⟨e0, e1, e2, e3, e4⟩ := PA.out
          obtain ⟨d0, d1, d2, d3, d4, z0⟩ := zero_row (by rw [K56.out.block _ (heap_lt R05.out) (fun x => x)]; exact R05.out : w6.heap[w.heap.size]? = some (.cells zeroPkt 48 (0, 0)))
          go_region
          clear CV VM
          go_wp2_with fail
          have k6 : Kp (fun z => z = w.heap.size) w6 _ := (Kp.drewN 1).no_trans (Kp.set5 (w6.drewN 1) w.heap.size (.int .u32 (pk.src : Int)) (.int .u32 (pk.dst : Int)) (.int .i64 pk.proto) (.int .i64 pk.sport) (.int .i64 pk.dport))
          have hb := HSZ.out
          have rep6 := (H3.out.rep.kp K35.out (fun k e hk => by have := H3.out.rep.lt k hk; omega)).no K56.out
          have fr3 := H3.out.sd.fr
          have qk3 := H3.out.qk
          refine bodyPost_ret (v := .tuple #[dv, pktV pk, .bool true]) ?_ rfl ⟨dv, M3, ⟨L3, by rw [HPK.out], rep6.kp k6 (fun k e hk => ?_), ?_, fun k hk => ?_⟩, qk3, ?_⟩
          · unfold pktV
            simp [results, Tryd.results36, go_sem, d0, d1, d2, d3, d4]
          · rcases fr3 k hk with h | h
            · rw [e] at h; exact NB.out h
            · omega
          · exact (((Kp.no_trans KW.out H3.out.sd.kp).trans (A' := fun z => z = w3.heap.size) (fun z e => .inr (by omega)) K35.out).trans_no K56.out).trans (A' := fun z => z = w.heap.size) (fun z e => .inr (by omega)) k6
          · rcases fr3 k hk with h | h
            · exact .inl h
            · exact .inr (by omega)
          · have hr := DR.out
            have hb2 : w.heap.size ≤ wr.heap.size := by have := KWR.out; omega
            have := ownsRow_kp (ownsRow_kp hr K56.out (fun _ _ z => z)) k6 (fun z e h => by have := (hr.lt z e).1; have := KWR.out; omega)
            rcases this.2 with hx | ⟨g, cap, cur, hv, hg, r⟩
            · exact ⟨this.1, .inl hx⟩
            · exact ⟨this.1, .inr ⟨g, cap, cur, hv, by omega, r⟩⟩

end Go.Proofs.YtohinonkfhkclaaDoor
