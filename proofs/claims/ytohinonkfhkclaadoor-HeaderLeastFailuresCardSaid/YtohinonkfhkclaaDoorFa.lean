/-
  Walks: 'AtMost' of the package failure.
-/
import Derived.Test.YtohinonkfhkclaaDoorFe
import Derived.Deep.DeepCutAuto
namespace Go.Proofs.YtohinonkfhkclaaDoor
open Go.RowKit

theorem info_ref3 : (Tryd.prog.info? 26).map (fun i => (i.zero, i.size, i.bytes)) = some (some (.int .i64 0), 1, 8) := by kernel_rfl
theorem made_zero3 (n : Nat) : (madeCells (Value.int .i64 0).cells (n * 1)).toList = List.replicate n (.int .i64 0) := by
  apply List.ext_getElem?
  intro j
  simp only [madeCells, Nat.mul_one, Array.getElem?_toList, List.getElem?_replicate]
  by_cases hj : j < n
  · simp [hj, Value.cells, Nat.mod_one]
  · simp [hj]

section
variable {w0 w w' : World} {p n c c' : Nat} {L0 L : Lay} {M : Mgr} {B : List (Int × Bfn)} {F : Bfn} {e : Ending}
theorem Hf.step2 (h : Hf w0 p L0 n c w M L B) (o : OpQ p n c' L w F B e w') : ∃ r M' L', e = .returned (.int .i64 r) ∧ 0 ≤ r ∧ Hf w0 p L0 n c' w' M' L' ((r, F) :: B) ∧ Kp (L.at p) w w' ∧ Fresh (L.at p) (L'.at p) w := by
  obtain ⟨r, M', ⟨L', he, rr, k, f⟩, q, h0⟩ := o
  refine ⟨r, M', L', he, h0, ⟨⟨rr, h.sd.kp.trans h.sd.fr k, fun x hx => ?_⟩, q, h.gl.kp k h.off, fun hx => ?_⟩, k, f⟩
  · rcases f x hx with h1 | h1
    · exact h.sd.fr x h1
    · right; have := h.sd.kp.size; omega
  · rcases f _ hx with h1 | h1
    · exact h.off h1
    · have := h.gl.lt; omega
theorem Hf.own {A : Nat → Prop} (h : Hf w0 p L0 n c w M L B) (k : Kp A w w') (h1 : ∀ b, A b → w0.heap.size ≤ b) (h2 : ∀ b, A b → ¬ L.at p b) (h3 : ¬ A 0) : Hf w0 p L0 n c w' M L B :=
  ⟨⟨h.sd.rep.kp k h2, h.sd.kp.trans (fun b e => .inr (h1 b e)) k, h.sd.fr⟩, h.qk, h.gl.kp k h3, h.off⟩
end

def rfRow (K : Nat) (rf : Nat → Int) : List Value := (List.range (K + 1)).map fun j => .int .i64 (rf j)
theorem rfRow_len (K : Nat) (rf : Nat → Int) : (rfRow K rf).length = K + 1 := by simp [rfRow]
theorem rfRow_at {K : Nat} (rf : Nat → Int) {j : Nat} (h : j ≤ K) : (rfRow K rf)[j]? = some (.int .i64 (rf j)) := by simp [rfRow, Nat.lt_succ_of_le h]
theorem rfRow_congr {K : Nat} {rf rg : Nat → Int} (h : ∀ j, j ≤ K → rf j = rg j) : rfRow K rf = rfRow K rg := by
  unfold rfRow
  apply List.map_congr_left
  intro j hj
  rw [h j (by have := List.mem_range.1 hj; omega)]
theorem rfRow_set {K : Nat} (rf : Nat → Int) (j : Nat) (r : Int) : (rfRow K rf).set j (.int .i64 r) = rfRow K (fun u => if u = j then r else rf u) := by
  apply List.ext_getElem?
  intro u
  by_cases hu : u ≤ K
  · rw [rfRow_at _ hu]
    by_cases e : j = u
    · subst e; rw [List.getElem?_set_self (by rw [rfRow_len]; omega), if_pos rfl]
    · rw [List.getElem?_set_ne e, rfRow_at _ hu, if_neg (Ne.symm e)]
  · rw [List.getElem?_eq_none (by rw [List.length_set, rfRow_len]; omega), List.getElem?_eq_none (by rw [rfRow_len]; omega)]
theorem rfRow_zero (K : Nat) : List.replicate (K + 1) (Value.int .i64 0) = rfRow K (fun u => if u < 0 then 1 else 0) := by
  apply List.ext_getElem?
  intro u
  by_cases hu : u ≤ K
  · rw [rfRow_at _ hu, List.getElem?_replicate, if_pos (by omega), if_neg (by omega)]
  · rw [List.getElem?_replicate, if_neg (by omega), List.getElem?_eq_none (by rw [rfRow_len]; omega)]

theorem rf_cell {wr : World} {b0 g K : Nat} {rf : Nat → Int} (h : wr.ownsRow b0 26 1 (.slice (some ⟨g, 0, none⟩) (K + 1) (K + 1)) (K + 1) (rfRow K rf)) {j : Nat} (hj : j ≤ K) : wr.cell? ⟨g, j, none⟩ = some (.int .i64 (rf j)) ∧ wr.frozen? ⟨g, j, none⟩ = false := by
  obtain ⟨g', c, hq, _, _, _, hc, hz⟩ := ownsRow_open h (by omega)
  cases hq
  exact ⟨hc j _ (rfRow_at rf hj), hz j⟩

def clN (x : Int) (m : Nat) : Nat := if x < 0 then 0 else if (m : Int) < x then m else x.toNat
theorem clN_le (x : Int) (m : Nat) : clN x m ≤ m := by unfold clN; split; omega; split <;> omega

def rowV (g K : Nat) : Value := .slice (some ⟨g, 0, none⟩) (K + 1) (K + 1)
/-- The row of the functions so far: below jc the old ones, from jc on the new ones. -/
def AtJ (w0 : World) (p : Nat) (L0 : Lay) (N : Nat) (B : List (Int × Bfn)) (g K Lk i jc : Nat) (xs : List (Int × Bfn)) (wr : World) : Prop :=
  ∃ rf Bc M L, Hf w0 p L0 220 N wr M L Bc ∧ wr.ownsRow w0.heap.size 26 1 (.slice (some ⟨g, 0, none⟩) (K + 1) (K + 1)) (K + 1) (rfRow K rf) ∧
    (∀ j, j ≤ K → (rf j, if j < jc then atF Lk i j else atF Lk (i + 1) j) ∈ Bc) ∧ (∀ x, x ∈ B → x ∈ Bc) ∧ (∀ x, x ∈ xs → x ∈ Bc) ∧ ((0 : Int), fun _ => false) ∈ Bc ∧ ¬ L.at p g
/-- The row being filled with True. -/
def AtI (w0 : World) (p : Nat) (L0 : Lay) (N : Nat) (M : Mgr) (B : List (Int × Bfn)) (g K gk : Nat) (s25 : Value) (wr : World) : Prop :=
  ∃ k, k + gk = K + 1 ∧ s25 = .int .i64 (k : Int) ∧ Hf w0 p L0 220 N wr M L0 B ∧ wr.ownsRow w0.heap.size 26 1 (.slice (some ⟨g, 0, none⟩) (K + 1) (K + 1)) (K + 1) (rfRow K fun u => if u < k then 1 else 0)
def AtO (w0 : World) (p : Nat) (L0 : Lay) (c : Nat) (B : List (Int × Bfn)) (g K Lk gk : Nat) (s9 : Value) (wr : World) : Prop :=
  gk ≤ 12 ∧ s9 = .int .i64 ((gk : Int) - 1) ∧ AtJ w0 p L0 (c + (12 - gk) * 14000000) B g K Lk (12 - gk) (K + 1) [] wr
def AtN (w0 : World) (p : Nat) (L0 : Lay) (c1 : Nat) (B : List (Int × Bfn)) (g K Lk i : Nat) (X : Int × Bfn) (jc : Nat) (s11 : Value) (wr : World) : Prop :=
  jc ≤ K + 1 ∧ s11 = .int .i64 ((jc : Int) - 1) ∧ AtJ w0 p L0 (c1 + 1 + (K + 1 - jc) * 1000000) B g K Lk i jc [X] wr

set_option maxRecDepth 100000 in
theorem AtMost_neg (links k : Int) (hk : k < 0) (p : Nat) (w : World) : Calls Tryd.prog 40 #[ptr p, .int .i64 links, .int .i64 k] w fun e w' => e = .returned (.int .i64 0) ∧ Kp No w w' := by
  go_enter Tryd.func40, Tryd.ntmps40
  go_wp2_with fail
  go_ret
  exact ⟨rfl, Kp.refl _ _⟩

set_option maxRecDepth 100000 in
set_option maxHeartbeats 4000000 in
theorem AtMost_ok {p c : Nat} {M : Mgr} {L : Lay} {B : List (Int × Bfn)} (links k : Int) (hk : 0 ≤ k) {w : World} (R : Rep w p M L) (q : Qk 220 c M B) (g : Gl w) (ho : ¬ L.at p 0) (hc : c ≤ 500000000000) :
    Calls Tryd.prog 40 #[ptr p, .int .i64 links, .int .i64 k] w (OpQ p 220 (c + 200000000) L w (atF (clN links 12) 12 (clN k 12)) B) := by
  obtain ⟨j0, hj0, hy0, hy1, hy2⟩ := info_parts info_ref3
  have H0 := Lib.hid (Hf.start R q g ho)
  have HLT := Lib.hid (fun x h => R.lt x h)
  have hk2 : ¬ k < 0 := by omega
  obtain ⟨Lk, hLk⟩ : ∃ x, clN links 12 = x := ⟨_, rfl⟩
  obtain ⟨K, hK⟩ : ∃ x, clN k 12 = x := ⟨_, rfl⟩
  have hL12 : Lk ≤ 12 := by rw [← hLk]; exact clN_le _ _
  have hK12 : K ≤ 12 := by rw [← hK]; exact clN_le _ _
  have E1 := Lib.hid hLk
  have E2 := Lib.hid hK
  have CC := Lib.hid hc
  rw [hLk, hK]
  have GLT := Lib.hid g.lt
  clear hLk hK R q g ho hc
  have ec : ((K + 1 : Nat) : Int) = (K : Int) + 1 := by omega
  obtain ⟨w1, hmk, r1, r2⟩ := run_make_full (P := Tryd.prog) w w.heap.size 101 26 j0 _ 1 Tryd.underlying101 hj0 hy0 hy1 .i64 .i64 (K + 1) (by rw [hy2]; omega) (by rw [maxLen_val]; omega) (Nat.le_refl _)
  rw [ec] at hmk
  rw [made_zero3, rfRow_zero] at r1
  have k1 : Kp No w w1 := (Kp.grown r2).mono (fun x _ e => by cases e)
  have glt : w.heap.size < w1.heap.size := (r1.lt _ rfl).2
  have NG : Hid (¬ L.at p w.heap.size) := Lib.hid (fun h => by have := HLT.out _ h; omega)
  have GF : Hid (0 ≠ w.heap.size) := Lib.hid (by have := GLT.out; omega)
  have I0 : Hid (AtI w p L c M B w.heap.size K (K + 1) (.int .i64 0) w1) := Lib.hid ⟨0, by omega, rfl, H0.out.no k1, r1⟩
  have HBC : Hid (∀ x, x ∈ B → x ∈ ((0 : Int), fun _ => false) :: ((1 : Int), fun _ => true) :: B) := Lib.hid (fun x hx => .tail _ (.tail _ hx))
  clear r1 r2 k1 H0 HLT GLT
  go_enter Tryd.func40, Tryd.ntmps40
  go_upto_region 3 with fail
  go_cut [1] (fun s x => s = .int .i64 (Lk : Int) ∧ x = w)
  case first =>
    clear I0 hmk
    by_cases h0 : links < 0
    · have E : Hid (Lk = 0) := Lib.hid (by rw [← E1.out]; unfold clN; rw [if_pos h0])
      have h0' : (0 : Int) > links := h0
      go_wp2_with fail
      go_meet
      case rel => exact ⟨by rw [E.out]; rfl, rfl⟩
    · by_cases h1 : 12 < links
      · have E : Hid (Lk = 12) := Lib.hid (by rw [← E1.out]; unfold clN; rw [if_neg h0, if_pos (by omega)])
        have h2 : ¬ links < 0 := h0
        go_wp2_with fail
        go_meet
        case rel => exact ⟨by rw [E.out]; rfl, rfl⟩
      · have E : Hid ((Lk : Int) = links) := Lib.hid (by rw [← E1.out]; unfold clN; rw [if_neg h0, if_neg (by omega)]; omega)
        have h3 : ¬ links < 0 := h0
        go_wp2_with fail
        go_meet
        case rel => exact ⟨by rw [E.out], rfl⟩
  case rest =>
  obtain ⟨hs, hw⟩ := hcut
  replace hw := hw.symm
  subst hs hw
  go_upto_region 4 with fail
  go_cut [2] (fun s x => s = .int .i64 (K : Int) ∧ x = w)
  case first =>
    clear I0 hmk
    by_cases h1 : 12 < k
    · have E : Hid (K = 12) := Lib.hid (by rw [← E2.out]; unfold clN; rw [if_neg (by omega), if_pos (by omega)])
      go_wp2_with fail
      go_meet
      case rel => exact ⟨by rw [E.out]; rfl, rfl⟩
    · have E : Hid ((K : Int) = k) := Lib.hid (by rw [← E2.out]; unfold clN; rw [if_neg (by omega), if_neg (by omega)]; omega)
      go_wp2_with fail
      go_meet
      case rel => exact ⟨by rw [E.out], rfl⟩
  case rest =>
  obtain ⟨hs, hw⟩ := hcut
  replace hw := hw.symm
  subst hs hw
  clear E1 E2 hk hk2
  go_wp2_with fail
  go_loopg [25] (K + 1) (fun gk s wr => AtI w p L c M B w.heap.size K gk s wr)
  case atStart => exact I0.out
  case round =>
    clear I0 hmk
    obtain ⟨k, hk, rfl, h, row⟩ := hrel
    by_cases hlt : k < K + 1
    · obtain ⟨c1, z1⟩ := rf_cell row (j := k) (by omega)
      have JN : Hid (AtI w p L c M B w.heap.size K (K - k) (.int .i64 ((k + 1 : Nat) : Int)) (wr.setCell ⟨w.heap.size, k, none⟩ (.int .i64 1))) := Lib.hid ⟨k + 1, by omega, rfl, h.own (Kp.setCell _ _) (fun x e => by rw [e]; exact Nat.le_refl _) (fun x e => by rw [e]; exact NG.out) GF.out, by
        have := ownsRow_put row k (.int .i64 1)
        rw [rfRow_set, rfRow_congr (rg := fun u => if u < k + 1 then 1 else 0) (fun j _ => by
          by_cases e : j = k
          · subst e; rw [if_pos rfl, if_pos (by omega)]
          · rw [if_neg e]; by_cases h2 : j < k
            · rw [if_pos h2, if_pos (by omega)]
            · rw [if_neg h2, if_neg (by omega)])] at this
        exact this⟩
      have hlti : (k : Int) < (K : Int) + 1 := by omega
      have hki : (k : Int) + 1 ≤ 13 := by omega
      have HK := Lib.hid hk
      clear h row hk
      go_wp2_with fail
      go_roundg (K - k)
      case measure => have := HK.out; omega
      case rel => exact JN.out
    · obtain rfl : k = K + 1 := by omega
      have hlti : ¬ (((K + 1 : Nat) : Int) < (K : Int) + 1) := by omega
      have J0 : Hid (AtO w p L c B w.heap.size K Lk 12 (.int .i64 11) wr) := Lib.hid ⟨by omega, rfl, fun _ => 1, _, M, L, by rw [show 12 - 12 = 0 from rfl, Nat.zero_mul, Nat.add_zero]; exact h.consts, by
        rw [rfRow_congr (rg := fun _ => 1) (fun j hj => by rw [if_pos (by omega)])] at row
        exact row, fun j hj => by rw [if_pos (by omega)]; exact .tail _ (.head _), HBC.out, fun x hx => by simp at hx, .head _, NG.out⟩
      clear h row hk hlt
      go_wp2_with fail
      generalize wr = wA at *
      go_loopg [9] 12 (fun gk s wr => AtO w p L c B w.heap.size K Lk gk s wr)
      case atStart => exact J0.out
      case round =>
        clear J0
        obtain ⟨hg12, rfl, rf, Bc, M1, L1, h, row, hrf, hB, _, hF, hng⟩ := hrel
        by_cases hgk : 0 < gk
        · obtain ⟨v, rfl⟩ : ∃ v, gk = v + 1 := ⟨gk - 1, by omega⟩
          have hv : v < 12 := by omega
          have hvi : ((v + 1 : Nat) : Int) - 1 = (v : Int) := by omega
          rw [hvi]
          have hv0 : (0 : Int) ≤ (v : Int) := by omega
          have FV := Lib.hid (Failure_ok (v : Int) wr)
          rw [if_pos (by omega)] at FV
          have H1 := Lib.hid h
          have ROW := Lib.hid row
          have RF := Lib.hid hrf
          have BB := Lib.hid (And.intro hB (And.intro hF hng))
          have HV := Lib.hid hv
          have EC : Hid (c + (12 - (v + 1)) * 14000000 + 14000000 = c + (12 - v) * 14000000 ∧ (12 - v) * 14000000 ≤ 168000000) := Lib.hid (by omega)
          have EI : Hid (12 - v = (12 - (v + 1)) + 1 ∧ 11 - (12 - (v + 1)) = v ∧ 12 - (v + 1) < 12) := Lib.hid (by omega)
          clear h row hrf hB hF hng hg12 hvi
          generalize 12 - (v + 1) = i at *
          obtain ⟨c1, hc1⟩ : ∃ c1, c + i * 14000000 = c1 := ⟨_, rfl⟩
          rw [hc1] at H1 EC
          clear hc1
          go_wp2_with fail
          refine FV.out.mono ?_
          rintro e w' ⟨rfl, rfl⟩
          clear FV
          go_wp2_with fail
          refine (VarQ H1.out.rep H1.out.qk (v := v) (by omega) (by have := EC.out; have := CC.out; omega)).mono ?_
          intro e w3 h3
          obtain ⟨rx, M2, L2, rfl, hx0, f3, k3, fr3⟩ := H1.out.step2 h3
          have hgl : w.heap.size < wr.heap.size := (ROW.out.lt _ rfl).2
          have N0 : Hid (AtN w p L c1 B w.heap.size K Lk i (rx, fun a => a v) (K + 1) (.int .i64 (K : Int)) w3) := Lib.hid ⟨by omega, by congr 1; omega, rf, _, M2, L2, by rw [Nat.sub_self, Nat.zero_mul, Nat.add_zero]; exact f3,
            ownsRow_kp ROW.out k3 (fun x e hx => by simp [Value.ownBlock] at e; subst e; exact BB.out.2.2 hx), fun j hj => by have := RF.out j hj; rw [if_pos (by omega)] at this ⊢; exact .tail _ this,
            fun x hx => .tail _ (BB.out.1 x hx), fun x hx => by simp at hx; subst hx; exact .head _, .tail _ BB.out.2.1, fun hx => by
              rcases fr3 _ hx with h1 | h1
              · exact BB.out.2.2 h1
              · omega⟩
          clear h3 f3 k3 fr3 H1 ROW RF BB
          go_wp2_with fail
          generalize w3 = wB at *
          go_loopg [11] (K + 1) (fun gk s wr => AtN w p L c1 B w.heap.size K Lk i (rx, fun a => a v) gk s wr)
          case atStart => exact N0.out
          case round =>
            clear N0
            obtain ⟨hjk, rfl, rf, Bc, M1, L1, h, row, hrf, hB, hX, hF, hng⟩ := hrel
            by_cases hgt : 0 < gk
            · obtain ⟨j, rfl⟩ : ∃ j, gk = j + 1 := ⟨gk - 1, by omega⟩
              have hjK : j ≤ K := by omega
              have hji : ((j + 1 : Nat) : Int) - 1 = (j : Int) := by omega
              rw [hji]
              have hj0 : (0 : Int) ≤ (j : Int) := by omega
              obtain ⟨cj, zj⟩ := rf_cell row (j := j) hjK
              have m0 := hrf j hjK
              rw [if_pos (by omega)] at m0
              have hx : (rx, fun a => a v) ∈ Bc := hX _ (.head _)
              have ROW := Lib.hid row
              have RF := Lib.hid hrf
              have BB := Lib.hid (And.intro hB (And.intro hX (And.intro hF hng)))
              have H1 := Lib.hid h
              have hgl : w.heap.size < wr.heap.size := (row.lt _ rfl).2
              have hst : (K + 1 - (j + 1)) * 1000000 ≤ 12000000 := by omega
              have ED : Hid (c1 + 1 + (K + 1 - (j + 1)) * 1000000 + 220 * 4096 ≤ c1 + 1 + (K + 1 - j) * 1000000 ∧ c1 + 1 + (K + 1 - (j + 1)) * 1000000 + 220 * 4096 ≤ 1000000000000) := Lib.hid (by have := EC.out; have := CC.out; omega)
              have NX : Hid (∀ (r : Int) (M3 : Mgr) (L3 : Lay) (wz : World), Hf w p L 220 (c1 + 1 + (K + 1 - (j + 1)) * 1000000 + 220 * 4096) wz M3 L3 ((r, atF Lk (i + 1) j) :: Bc) → Kp (L1.at p) wr wz → Fresh (L1.at p) (L3.at p) wr → AtN w p L c1 B w.heap.size K Lk i (rx, fun a => a v) j (.int .i64 ((j : Int) - 1)) (wz.setCell ⟨w.heap.size, j, none⟩ (.int .i64 r))) := Lib.hid (fun r M3 L3 wz f3 k3 fr3 => by
                have ng3 : ¬ L3.at p w.heap.size := fun hx => by
                  rcases fr3 _ hx with h1 | h1
                  · exact BB.out.2.2.2 h1
                  · omega
                refine ⟨by omega, rfl, fun u => if u = j then r else rf u, _, M3, L3, (f3.mono ED.out.1).own (Kp.setCell _ _) (fun x e => by rw [e]; exact Nat.le_refl _) (fun x e => by rw [e]; exact ng3) GF.out, ?_, fun u hu => ?_, fun x hx => .tail _ (BB.out.1 x hx), fun x hx => .tail _ (BB.out.2.1 x hx), .tail _ BB.out.2.2.1, ng3⟩
                · have := ownsRow_put (ownsRow_kp ROW.out k3 (fun x e hx => by simp [Value.ownBlock] at e; subst e; exact BB.out.2.2.2 hx)) j (.int .i64 r)
                  rw [rfRow_set] at this
                  exact this
                · dsimp only
                  by_cases e : u = j
                  · subst e; rw [if_pos rfl, if_neg (by omega)]; exact .head _
                  · rw [if_neg e]
                    have := RF.out u hu
                    by_cases h2 : u < j
                    · rw [if_pos (by omega)] at this; rw [if_pos h2]; exact .tail _ this
                    · rw [if_neg (by omega)] at this; rw [if_neg h2]; exact .tail _ this)
              have CB : Hid (∀ (L3 : Lay) (wz : World), Kp (L1.at p) wr wz → wz.cell? ⟨w.heap.size, j, none⟩ = some (.int .i64 (rf j)) ∧ wz.frozen? ⟨w.heap.size, j, none⟩ = false) := Lib.hid (fun _ wz k3 => rf_cell (ownsRow_kp ROW.out k3 (fun x e hx => by simp [Value.ownBlock] at e; subst e; exact BB.out.2.2.2 hx)) hjK)
              have hst2 : ∀ (G : Bfn), (∀ a, (if a v then G a else atF Lk i j a) = atF Lk (i + 1) j a) → PSt 220 (fun a => if a v then G a else atF Lk i j a) 4096 := fun G hG => (PSt.few (n := 220) (atF_rd Lk (i + 1) j (by have := EI.out; omega))).congr hG
              have HST := Lib.hid hst2
              by_cases hcond : 0 < j ∧ v < Lk
              · obtain ⟨hc0, hc1⟩ := hcond
                obtain ⟨cj1, zj1⟩ := rf_cell row (j := j - 1) (by omega)
                have m1 := hrf (j - 1) (by omega)
                rw [if_pos (by omega)] at m1
                have hjm : ((j - 1 : Nat) : Int) = (j : Int) - 1 := by omega
                have EQ : Hid (∀ a, (if a v then atF Lk i (j - 1) a else atF Lk i j a) = atF Lk (i + 1) j a) := Lib.hid (fun a => by
                  simp only [atF]
                  rw [EI.out.2.1, if_pos (show 0 < j ∧ v < Lk from ⟨hc0, hc1⟩)])
                have IT := Lib.hid (IteQ H1.out.rep H1.out.qk hx m1 m0 (HST.out _ EQ.out) ED.out.2)
                have hc0i : (0 : Int) < (j : Int) := by omega
                have hc1i : (v : Int) < (Lk : Int) := by omega
                have hj1i : (0 : Int) ≤ (j : Int) - 1 := by omega
                have hj1k : (j : Int) - 1 < (K : Int) + 1 := by omega
                have hjk1 : (j : Int) < (K : Int) + 1 := by omega
                have htn : ((j : Int) - 1).toNat = j - 1 := by omega
                clear h row hrf hB hX hF hng hji m0 m1 hx hst hst2 hjk HST RF ROW
                generalize rf j = r0 at *
                generalize rf (j - 1) = r1 at *
                go_wp2_with fail
                refine IT.out.mono ?_
                intro e w4 h4
                obtain ⟨r, M3, L3, rfl, hr0, f3, k3, fr3⟩ := H1.out.step2 h4
                have NY := Lib.hid (NX.out r M3 L3 w4 (f3.cong EQ.out) k3 fr3)
                obtain ⟨cz, zz⟩ := CB.out L3 w4 k3
                clear h4 f3 k3 fr3 H1 IT NX CB cj zj cj1 zj1
                go_wp2_with fail
                go_roundg j
                case measure => omega
                case rel => exact NY.out
              · have EQ : Hid (∀ a, (if a v then false else atF Lk i j a) = atF Lk (i + 1) j a) := Lib.hid (fun a => by
                  simp only [atF]
                  rw [EI.out.2.1, if_neg hcond])
                have IT := Lib.hid (IteQ H1.out.rep H1.out.qk hx hF m0 (HST.out _ EQ.out) ED.out.2)
                have hjk1 : (j : Int) < (K : Int) + 1 := by omega
                have hcd : 0 < j → ¬ v < Lk := fun h1 h2 => hcond ⟨h1, h2⟩
                clear h row hrf hB hX hF hng hji m0 hx hst hst2 hjk HST RF ROW hcond
                generalize rf j = r0 at *
                by_cases hc0 : 0 < j
                · have hc1 := hcd hc0
                  have hc0i : (0 : Int) < (j : Int) := by omega
                  have hc1i : ¬ (v : Int) < (Lk : Int) := by omega
                  clear hcd
                  go_wp2_with fail
                  refine IT.out.mono ?_
                  intro e w4 h4
                  obtain ⟨r, M3, L3, rfl, hr0, f3, k3, fr3⟩ := H1.out.step2 h4
                  have NY := Lib.hid (NX.out r M3 L3 w4 (f3.cong EQ.out) k3 fr3)
                  obtain ⟨cz, zz⟩ := CB.out L3 w4 k3
                  clear h4 f3 k3 fr3 H1 IT NX CB cj zj
                  go_wp2_with fail
                  go_roundg j
                  case measure => omega
                  case rel => exact NY.out
                · have hc0i : ¬ (0 : Int) < (j : Int) := by omega
                  clear hcd
                  go_wp2_with fail
                  refine IT.out.mono ?_
                  intro e w4 h4
                  obtain ⟨r, M3, L3, rfl, hr0, f3, k3, fr3⟩ := H1.out.step2 h4
                  have NY := Lib.hid (NX.out r M3 L3 w4 (f3.cong EQ.out) k3 fr3)
                  obtain ⟨cz, zz⟩ := CB.out L3 w4 k3
                  clear h4 f3 k3 fr3 H1 IT NX CB cj zj
                  go_wp2_with fail
                  go_roundg j
                  case measure => omega
                  case rel => exact NY.out
            · obtain rfl : gk = 0 := by omega
              have ON : Hid (AtO w p L c B w.heap.size K Lk v (.int .i64 ((v : Int) - 1)) wr) := Lib.hid ⟨by have := HV.out; omega, rfl, rf, Bc, M1, L1, h.mono (by have := EC.out; omega), row, fun j hj => by
                have := hrf j hj
                rw [if_neg (by omega)] at this
                rw [if_pos (by omega), EI.out.1]
                exact this, hB, fun x hx => by simp at hx, hF, hng⟩
              clear h row hrf hB hX hF hng hjk hgt
              go_wp2_with fail
              go_roundg v
              case measure => omega
              case rel => exact ON.out
        · obtain rfl : gk = 0 := by omega
          obtain ⟨cj, zj⟩ := rf_cell row (j := K) (Nat.le_refl _)
          have m0 := hrf K (Nat.le_refl _)
          rw [if_pos (by omega)] at m0
          have FIN : Hid (OpQ p 220 (c + 200000000) L w (atF Lk 12 K) B (.returned (.int .i64 (rf K))) wr) := Lib.hid (h.ret m0 hB (by omega))
          have hKK : (K : Int) < (K : Int) + 1 := by omega
          have hK0 : (0 : Int) ≤ (K : Int) := by omega
          clear h row hrf hB hF hng hg12 hgk m0
          generalize rf K = rk at *
          go_wp2_with fail
          go_ret
          exact FIN.out

end Go.Proofs.YtohinonkfhkclaaDoor
