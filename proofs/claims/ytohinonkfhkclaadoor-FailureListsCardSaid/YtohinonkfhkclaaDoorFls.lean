/-
  Walks: the law FailureLists.
-/
import Derived.Test.YtohinonkfhkclaaDoorFq
import Derived.Test.YtohinonkfhkclaaDoorLaid
import Derived.Deep.CutBlock
import Derived.Deep.RegionHeld3
import Derived.Deep.QuietTactic
import Derived.BigQuiet
namespace Go.Proofs.YtohinonkfhkclaaDoor
open Go.RowKit

theorem Nest.step {A A' : Nat → Prop} {b0 : Nat} {w w' : World} {v : Value} {ls : List (List Nat)} (h : Nest A b0 w v ls) (k : Kp A w w') (f : Fresh A A' w) : Nest A' b0 w' v ls :=
  ((h.fresh (A' := fun z => A z ∨ A' z) (fun z hz hz2 => hz2.elim id (fun h2 => (f z h2).elim id (fun h3 => absurd hz (by omega))))).kp (k.mono (fun z _ h => .inl h))).fresh (fun z _ h => .inr h)
/-- A row clear of the blocks of A. -/
def RowA (A : Nat → Prop) (b0 : Nat) (w : World) (v : Value) (xs : List Nat) : Prop := w.ownsRow b0 3 1 v xs.length (xs.map natV) ∧ ∀ z, v.ownBlock = some z → ¬ A z
theorem RowA.step {A A' : Nat → Prop} {b0 : Nat} {w w' : World} {v : Value} {xs : List Nat} (h : RowA A b0 w v xs) (k : Kp A w w') (f : Fresh A A' w) : RowA A' b0 w' v xs :=
  ⟨ownsRow_kp h.1 k h.2, fun z hz hz2 => (f z hz2).elim (h.2 z hz) (fun h3 => by have := (h.1.lt z hz).2; omega)⟩
theorem RowA.no {A : Nat → Prop} {b0 : Nat} {w w' : World} {v : Value} {xs : List Nat} (h : RowA A b0 w v xs) (k : Kp No w w') : RowA A b0 w' v xs := ⟨ownsRow_kp h.1 k (fun _ _ z => z), h.2⟩

/-- The state of the loop over the sets. -/
def FlR (w0 : World) (p : Nat) (L0 : Lay) (links k : Int) (ss : List Nat) (gk : Nat) (s8 s9 s10 : Value) (wr : World) : Prop :=
  ∃ i f M L v, i + gk = ss.length ∧ s10 = .int .i64 (i : Int) ∧ s8 = .int .i64 f ∧ v = s9 ∧ Hf w0 p L0 220 (2 + i * 2000000) wr M L [(f, orF (ss.take i))] ∧ Nest (L.at p) w0.heap.size wr v (wantL links k (ss.take i))
def FlC (w : World) (n gk : Nat) (s14 : Value) (wr : World) : Prop := ∃ i, i + gk = n ∧ s14 = .int .i64 (i : Int) ∧ Kp No w wr

set_option maxRecDepth 100000 in
set_option maxHeartbeats 8000000 in
theorem FailureLists_walk (ss : List Nat) (links k : Int) {dv : Value} {w : World} (hd : SrcAt w dv 1 ss.length (ss.map u16V)) (hlt : ∀ x, x ∈ ss → x < 65536) (hmx : ss.length ≤ maxLen) (g : Gl w) :
    Calls Tryd.prog 3 #[dv, .int .i64 links, .int .i64 k] w fun e w' => e = .returned (.bool true) ∧ Kp No w w' := by
  have GLW := Lib.hid g
  have AW := Lib.hid (fawake_ok g)
  have SRC := Lib.hid hd
  have LTS := Lib.hid hlt
  obtain ⟨ao, cp, rfl⟩ := hd.form
  clear hd
  have hm := maxLen_val
  have hle : (ss.length : Int) ≤ 9223372036854775807 := by omega
  clear g hlt
  by_cases h30 : 30 < ss.length
  · have h30i : (30 : Int) < (ss.length : Int) := by omega
    go_enter Tryd.func3, Tryd.ntmps3
    go_wp2_with fail
    refine AW.out.mono ?_
    rintro e w1 ⟨rfl, k1⟩
    have K1 := Lib.hid k1
    clear k1 AW
    go_wp2_with fail
    go_ret
    exact ⟨rfl, K1.out⟩
  have h30i : ¬ (30 : Int) < (ss.length : Int) := by omega
  have CL := Lib.hid (fun (y : World) => clamp3_ok links 0 12 y)
  clear hmx hm hle
  go_enter Tryd.func3, Tryd.ntmps3
  go_wp2_with fail
  refine AW.out.mono ?_
  rintro e w1 ⟨rfl, k1⟩
  have G1 := Lib.hid (GLW.out.no k1)
  have K1 := Lib.hid k1
  have NEW := Lib.hid (HNew_ok w1)
  clear k1 AW GLW
  go_wp2_with fail
  refine NEW.out.mono ?_
  rintro e w2 ⟨pm, L2, rfl, R2, k2, o2⟩
  have H2 := Lib.hid (hf_new G1.out (Kp.refl No _) R2 k2 o2)
  have K2 := Lib.hid (K1.out.trans_no k2)
  have O2 : Hid (∀ x, L2.at pm x → w.heap.size ≤ x) := Lib.hid (fun x hx => by have := o2 x hx; have := K1.out.size; omega)
  have S2 : Hid (∀ y, Kp (L2.at pm) w2 y → SrcAt y (.slice ao ss.length cp) 1 ss.length (ss.map u16V)) := Lib.hid (fun y ky => SRC.out.no ((K2.out.trans (A' := L2.at pm) (fun x hx => .inr (O2.out x hx)) ky)))
  have J0 : Hid (FlR w2 pm L2 links k ss ss.length (.int .i64 0) (.slice none 0 0) (.int .i64 0) w2) := Lib.hid ⟨0, 0, _, L2, _, by omega, rfl, rfl, rfl, (H2.out.consts.sub (B' := [(0, fun _ => false)]) (fun x hx => by rcases List.mem_singleton.1 hx with rfl; exact .head _)).cong (fun a => rfl), Nest.nil _ _ _⟩
  clear R2 k2 o2 NEW G1 SRC
  go_wp2_with fail
  go_loopg [8, 9, 10] ss.length (fun gk s8 s9 s10 x => FlR w2 pm L2 links k ss gk s8 s9 s10 x)
  case atStart => exact J0.out
  case round =>
    clear J0
    obtain ⟨i, f, M, L, v, hi, rfl, rfl, rfl, hf, nest⟩ := hrel
    have HF := Lib.hid hf
    have NE := Lib.hid nest
    have HI := Lib.hid hi
    clear hf nest
    by_cases hlt : i < ss.length
    · obtain ⟨g1, o1, c1, hv1, _, hcell⟩ := (S2.out wr HF.out.sd.kp).cellAt (by omega)
      have hv2 : ao = some ⟨g1, o1, none⟩ := by injection hv1
      subst hv2
      have hc := hcell i (u16V ss[i]) (by simp [hlt])
      unfold u16V at hc
      have hlti : (i : Int) < ss.length := by omega
      have DN := Lib.hid (down_ok ss[i] (LTS.out _ (List.getElem_mem hlt)) wr)
      have WN := Lib.hid (wantL_take links k ss hlt)
      have OS : Hid (okS links k ss[i] = (decide (((dwL ss[i]).length : Int) ≤ max k (-1)) && decide (dwL ss[i] = [] ∨ ((dwL ss[i]).getD ((dwL ss[i]).length - 1) 0 : Int) < clamp3 links 0 12))) := Lib.hid rfl
      have OT := Lib.hid (orF_take ss hlt)
      obtain ⟨_, _, hwl⟩ := wantL_all links k ss i (by omega)
      have HWL := Lib.hid hwl
      have OKX := Lib.hid (okL_dw ss[i])
      have hxl := dwL_len ss[i]
      have hi30 : i < 30 := by omega
      have PO := Lib.hid (PSt.few (n := 220) (orF_rd (ss.take (i + 1))))
      have SMALL : Hid (∀ y, y ∈ wantL links k (ss.take i) → y.length ≤ 1000) := Lib.hid (fun y hy => by
        obtain ⟨_, hw2, _⟩ := wantL_all links k ss i (by omega)
        obtain ⟨s, _, _, rfl⟩ := (hw2 y).1 hy
        have := dwL_len s; omega)
      clear hcell hv1 hwl
      generalize (ss[i] : Int) = xi at *
      go_wp2_with fail
      refine DN.out.mono ?_
      rintro e w3 ⟨xv, rfl, xrow, k3⟩
      have hs3 := HF.out.sd.kp.size
      have X3 : Hid (RowA (L.at pm) w2.heap.size w3 xv (dwL ss[i])) := Lib.hid ⟨ownsRow_mono xrow hs3, fun z hz hz2 => by have := (xrow.lt z hz).1; have := HF.out.rep.lt z hz2; omega⟩
      have H3 := Lib.hid (HF.out.no k3)
      have N3 := Lib.hid (NE.out.no k3)
      clear DN xrow k3 HF NE hs3
      have EX := Lib.hid (Exactly_ok ((dwL ss[i]).map Int.ofNat) (by rw [List.length_map]; omega) OKX.out H3.out.rep H3.out.qk H3.out.gl H3.out.off (dv := xv) (by rw [List.length_map, nat_int_map]; exact SrcAt.of_row X3.out.1) (by omega))
      obtain ⟨ax, cx, rfl⟩ := row_form X3.out.1
      go_wp2_with fail
      refine EX.out.mono ?_
      intro e w4 h4
      obtain ⟨r4, M4, L4, rfl, _, f4, k4, fr4⟩ := H3.out.step2 h4
      have H4 := Lib.hid (f4.cong (G := exS ss[i]) (fun _ => rfl))
      have X4 := Lib.hid (X3.out.step k4 fr4)
      have N4 := Lib.hid (N3.out.step k4 fr4)
      clear h4 f4 k4 fr4 EX H3 X3 N3
      have OR := Lib.hid (OrQ (F := orF (ss.take i)) (G := exS ss[i]) H4.out.rep H4.out.qk (.tail _ (.head _)) (.head _) (s := 4096) (by rw [← OT.out]; exact PO.out) (by omega))
      rw [← OT.out] at OR
      go_wp2_with fail
      refine OR.out.mono ?_
      intro e w5 h5
      obtain ⟨r5, M5, L5, rfl, _, f5, k5, fr5⟩ := H4.out.step2 h5
      have H5 := Lib.hid ((f5.mono (c' := 2 + (i + 1) * 2000000) (by omega)).sub (B' := [(r5, orF (ss.take (i + 1)))]) (fun x hx => by rcases List.mem_singleton.1 hx with rfl; exact .head _))
      have X5 := Lib.hid (X4.out.step k5 fr5)
      have N5 := Lib.hid (N4.out.step k5 fr5)
      clear h5 f5 k5 fr5 OR H4 X4 N4 OT PO OKX
      generalize okS links k ss[i] = ok at *
      obtain ⟨xs, hxs⟩ : ∃ xs, dwL ss[i] = xs := ⟨_, rfl⟩
      rw [hxs] at OS X5 WN hxl
      rw [hxs]
      clear hxs hc
      have JS : Hid (ok = false → ∀ y, Kp No w5 y → FlR w2 pm L2 links k ss (ss.length - (i + 1)) (.int .i64 r5) v (.int .i64 ((i + 1 : Nat) : Int)) y) := Lib.hid (fun ho y ky => ⟨i + 1, r5, M5, L5, v, by omega, rfl, rfl, rfl, H5.out.no ky, by
        rw [WN.out, if_neg (by rw [ho]; exact Bool.false_ne_true)]; exact N5.out.no ky⟩)
      have IN : Hid (ok = true → ∀ y, Kp No w5 y → Calls Tryd.prog 16 #[v, .slice ax xs.length cx] y fun e w' => ∃ v', e = .returned v' ∧ FlR w2 pm L2 links k ss (ss.length - (i + 1)) (.int .i64 r5) v' (.int .i64 ((i + 1 : Nat) : Int)) w') := Lib.hid (fun ho y ky => (insert_ok (A := L5.at pm) (b0 := w2.heap.size) (fun z hz => (H5.out.no ky).rep.lt z hz) (H5.out.no ky).sd.kp.size (N5.out.no ky) X5.out.2 (X5.out.no ky).1 (Nat.le_trans HWL.out (by omega)) SMALL.out (by omega)).mono fun e w' h => by
        obtain ⟨v', rfl, h1, h2⟩ := h
        exact ⟨v', rfl, i + 1, r5, M5, L5, v', by omega, rfl, rfl, rfl, (H5.out.no ky).no h2, by rw [WN.out, if_pos ho]; exact h1⟩)
      obtain ⟨av, cv, rfl⟩ := N5.out.form
      have XC : Hid (∀ n, xs.length = n + 1 → ∃ gx, ax = some ⟨gx, 0, none⟩ ∧ w5.cell? ⟨gx, n, none⟩ = some (.int .i64 (xs.getD n 0 : Int))) := Lib.hid (fun n hn => by
        obtain ⟨gx, c', hv', _, _, _, hc', _⟩ := ownsRow_open X5.out.1 (by omega)
        injection hv' with e1 e2 e3
        exact ⟨gx, e1, hc' n _ (by simp [natV, hn])⟩)
      have H6 : Hid (w5.heap.size = w5.heap.size) := Lib.hid rfl
      generalize wantL links k (ss.take i) = wl at *
      clear H6 H5 N5 X5 WN SMALL LTS HWL S2
      have hkk : k < -1 ∨ (-1 : Int) ≤ k := by omega
      rcases hkk with hk | hk
      · have hk' : (-1 : Int) > k := hk
        have hm : max k (-1) = -1 := by omega
        have ho : ok = false := by rw [OS.out, hm, decide_eq_false (by omega)]; rfl
        have JN := Lib.hid (JS.out ho _ Kp.drew)
        have hgt : (xs.length : Int) > -1 := by omega
        clear JS IN OS XC hm ho
        go_upto_region 13 with fail
        have S0 : Hid (w5.heap.size ≤ w5.heap.size) := Lib.hid (Nat.le_refl _)
        refine wp_region_held_drew (S := fun y => w5.heap.size ≤ y.heap.size) rfl (by simp) (fun hS => ?_)
        refine wpAnyH_take (i := 0) (by simp only [List.getElem?_toArray, List.getElem?_cons_zero]; rfl) (by kernel_rfl) (by kernel_rfl) (by kernel_rfl) (by exact fun _ _ _ h => h) (by first | exact Or.inr ⟨by rfl, rfl⟩ | (refine Or.inl ⟨by rfl, fun w hSw => ?_⟩; go_simp; try with_reducible rfl)) hS ?_
        simp only [Act.put, List.setIfInBounds_toArray, List.set_cons_zero, List.set_cons_succ]
        refine wpAnyH_take (i := 1) (by simp only [List.getElem?_toArray, List.getElem?_cons_zero, List.getElem?_cons_succ]; rfl) (by kernel_rfl) (by kernel_rfl) (by kernel_rfl) (by exact fun _ _ _ h => h) (by first | exact Or.inr ⟨by rfl, rfl⟩ | (refine Or.inl ⟨by rfl, fun w hSw => ?_⟩; go_simp; try with_reducible rfl)) hS ?_
        simp only [Act.put, List.setIfInBounds_toArray, List.set_cons_zero, List.set_cons_succ]
        refine wpAnyH_take (i := 2) (by simp only [List.getElem?_toArray, List.getElem?_cons_zero, List.getElem?_cons_succ]; rfl) (by kernel_rfl) (by kernel_rfl) (by kernel_rfl) (by exact fun _ _ _ h => h) (by first | exact Or.inr ⟨by rfl, rfl⟩ | (refine Or.inl ⟨by rfl, fun w hSw => ?_⟩; go_simp; try with_reducible rfl)) hS ?_
        simp only [Act.put, List.setIfInBounds_toArray, List.set_cons_zero, List.set_cons_succ]
        refine wpAnyH_take (i := 3) (by simp only [List.getElem?_toArray, List.getElem?_cons_zero, List.getElem?_cons_succ]; rfl) (by kernel_rfl) (by kernel_rfl) (by kernel_rfl) (by exact fun _ _ _ h => h) (by first | exact Or.inr ⟨by rfl, rfl⟩ | (refine Or.inl ⟨by rfl, fun w hSw => ?_⟩; go_simp; try with_reducible rfl)) hS ?_
        simp only [Act.put, List.setIfInBounds_toArray, List.set_cons_zero, List.set_cons_succ]
        refine wpAnyH_take (i := 4) (by simp only [List.getElem?_toArray, List.getElem?_cons_zero, List.getElem?_cons_succ]; rfl) (by kernel_rfl) (by kernel_rfl) (by kernel_rfl) (by exact fun _ _ _ h => h) (by first | exact Or.inr ⟨by rfl, rfl⟩ | (refine Or.inl ⟨by rfl, fun w hSw => ?_⟩; go_simp; try with_reducible rfl)) hS ?_
        simp only [Act.put, List.setIfInBounds_toArray, List.set_cons_zero, List.set_cons_succ]
        refine wpAnyH_take (i := 5) (by simp only [List.getElem?_toArray, List.getElem?_cons_zero, List.getElem?_cons_succ]; rfl) (by kernel_rfl) (by kernel_rfl) (by kernel_rfl) (by exact fun _ _ _ h => h) (by first | exact Or.inr ⟨by rfl, rfl⟩ | (refine Or.inl ⟨by rfl, fun w hSw => ?_⟩; go_simp; try with_reducible rfl)) hS ?_
        simp only [Act.put, List.setIfInBounds_toArray, List.set_cons_zero, List.set_cons_succ]
        refine wpAnyH_take (i := 6) (by simp only [List.getElem?_toArray, List.getElem?_cons_zero, List.getElem?_cons_succ]; rfl) (by kernel_rfl) (by kernel_rfl) (by kernel_rfl) (by exact fun _ _ _ h => h) (by first | exact Or.inr ⟨by rfl, rfl⟩ | (refine Or.inl ⟨by rfl, fun w hSw => ?_⟩; go_simp; try with_reducible rfl)) hS ?_
        simp only [Act.put, List.setIfInBounds_toArray, List.set_cons_zero, List.set_cons_succ]
        refine wpAnyH_take (i := 7) (by simp only [List.getElem?_toArray, List.getElem?_cons_zero, List.getElem?_cons_succ]; rfl) (by kernel_rfl) (by kernel_rfl) (by kernel_rfl) (by exact fun _ _ _ h => h) (by first | exact Or.inr ⟨by rfl, rfl⟩ | (refine Or.inl ⟨by rfl, fun w hSw => ?_⟩; go_simp; try with_reducible rfl)) hS ?_
        simp only [Act.put, List.setIfInBounds_toArray, List.set_cons_zero, List.set_cons_succ]
        refine wpAnyH_take (i := 8) (by simp only [List.getElem?_toArray, List.getElem?_cons_zero, List.getElem?_cons_succ]; rfl) (by kernel_rfl) (by kernel_rfl) (by kernel_rfl) (by exact fun _ _ _ h => h) (by first | exact Or.inr ⟨by rfl, rfl⟩ | (refine Or.inl ⟨by rfl, fun w hSw => ?_⟩; go_simp; try with_reducible rfl)) hS ?_
        simp only [Act.put, List.setIfInBounds_toArray, List.set_cons_zero, List.set_cons_succ]
        refine wpAnyH_take (i := 9) (by simp only [List.getElem?_toArray, List.getElem?_cons_zero, List.getElem?_cons_succ]; rfl) (by kernel_rfl) (by kernel_rfl) (by kernel_rfl) (by exact fun _ _ _ h => h) (by first | exact Or.inr ⟨by rfl, rfl⟩ | (refine Or.inl ⟨by rfl, fun w hSw => ?_⟩; go_simp; try with_reducible rfl)) hS ?_
        simp only [Act.put, List.setIfInBounds_toArray, List.set_cons_zero, List.set_cons_succ]
        refine wpAnyH_take (i := 10) (by simp only [List.getElem?_toArray, List.getElem?_cons_zero, List.getElem?_cons_succ]; rfl) (by kernel_rfl) (by kernel_rfl) (by kernel_rfl) (by exact fun _ _ _ h => h) (by first | exact Or.inr ⟨by rfl, rfl⟩ | (refine Or.inl ⟨by rfl, fun w hSw => ?_⟩; go_simp; try with_reducible rfl)) hS ?_
        simp only [Act.put, List.setIfInBounds_toArray, List.set_cons_zero, List.set_cons_succ]
        refine wpAnyH_take (i := 11) (by simp only [List.getElem?_toArray, List.getElem?_cons_zero, List.getElem?_cons_succ]; rfl) (by kernel_rfl) (by kernel_rfl) (by kernel_rfl) (by exact fun _ _ _ h => h) (by first | exact Or.inr ⟨by rfl, rfl⟩ | (refine Or.inl ⟨by rfl, fun w hSw => ?_⟩; go_simp; try with_reducible rfl)) hS ?_
        simp only [Act.put, List.setIfInBounds_toArray, List.set_cons_zero, List.set_cons_succ]
        refine wpAnyH_take (i := 12) (by simp only [List.getElem?_toArray, List.getElem?_cons_zero, List.getElem?_cons_succ]; rfl) (by kernel_rfl) (by kernel_rfl) (by kernel_rfl) (by exact fun _ _ _ h => h) (by first | exact Or.inr ⟨by rfl, rfl⟩ | (refine Or.inl ⟨by rfl, fun w hSw => ?_⟩; go_simp; try with_reducible rfl)) hS ?_
        simp only [Act.put, List.setIfInBounds_toArray, List.set_cons_zero, List.set_cons_succ]
        refine wpAnyH_take (i := 13) (by simp only [List.getElem?_toArray, List.getElem?_cons_zero, List.getElem?_cons_succ]; rfl) (by kernel_rfl) (by kernel_rfl) (by kernel_rfl) (by exact fun _ _ _ h => h) (by first | exact Or.inr ⟨by rfl, rfl⟩ | (refine Or.inl ⟨by rfl, fun w hSw => ?_⟩; go_simp; try with_reducible rfl)) hS ?_
        simp only [Act.put, List.setIfInBounds_toArray, List.set_cons_zero, List.set_cons_succ]
        refine wpAnyH_take (i := 14) (by simp only [List.getElem?_toArray, List.getElem?_cons_zero, List.getElem?_cons_succ]; rfl) (by kernel_rfl) (by kernel_rfl) (by kernel_rfl) (by exact fun _ _ _ h => h) (by first | exact Or.inr ⟨by rfl, rfl⟩ | (refine Or.inl ⟨by rfl, fun w hSw => ?_⟩; go_simp; try with_reducible rfl)) hS ?_
        simp only [Act.put, List.setIfInBounds_toArray, List.set_cons_zero, List.set_cons_succ]
        refine wpAnyH_take (i := 15) (by simp only [List.getElem?_toArray, List.getElem?_cons_zero, List.getElem?_cons_succ]; rfl) (by kernel_rfl) (by kernel_rfl) (by kernel_rfl) (by exact fun _ _ _ h => h) (by first | exact Or.inr ⟨by rfl, rfl⟩ | (refine Or.inl ⟨by rfl, fun w hSw => ?_⟩; go_simp; try with_reducible rfl)) hS ?_
        simp only [Act.put, List.setIfInBounds_toArray, List.set_cons_zero, List.set_cons_succ]
        refine wpAnyH_take (i := 16) (by simp only [List.getElem?_toArray, List.getElem?_cons_zero, List.getElem?_cons_succ]; rfl) (by kernel_rfl) (by kernel_rfl) (by kernel_rfl) (by exact fun _ _ _ h => h) (by first | exact Or.inr ⟨by rfl, rfl⟩ | (refine Or.inl ⟨by rfl, fun w hSw => ?_⟩; go_simp; try with_reducible rfl)) hS ?_
        simp only [Act.put, List.setIfInBounds_toArray, List.set_cons_zero, List.set_cons_succ]
        refine wpAnyH_take (i := 17) (by simp only [List.getElem?_toArray, List.getElem?_cons_zero, List.getElem?_cons_succ]; rfl) (by kernel_rfl) (by kernel_rfl) (by kernel_rfl) (by exact fun _ _ _ h => h) (by first | exact Or.inr ⟨by rfl, rfl⟩ | (refine Or.inl ⟨by rfl, fun w hSw => ?_⟩; go_simp; try with_reducible rfl)) hS ?_
        simp only [Act.put, List.setIfInBounds_toArray, List.set_cons_zero, List.set_cons_succ]
        refine wpAnyH_take (i := 18) (by simp only [List.getElem?_toArray, List.getElem?_cons_zero, List.getElem?_cons_succ]; rfl) (by kernel_rfl) (by kernel_rfl) (by kernel_rfl) (by exact fun _ _ _ h => h) (by first | exact Or.inr ⟨by rfl, rfl⟩ | (refine Or.inl ⟨by rfl, fun w hSw => ?_⟩; go_simp; try with_reducible rfl)) hS ?_
        simp only [Act.put, List.setIfInBounds_toArray, List.set_cons_zero, List.set_cons_succ]
        refine wpAnyH_take (i := 19) (by simp only [List.getElem?_toArray, List.getElem?_cons_zero, List.getElem?_cons_succ]; rfl) (by kernel_rfl) (by kernel_rfl) (by kernel_rfl) (by exact fun _ _ _ h => h) (by first | exact Or.inr ⟨by rfl, rfl⟩ | (refine Or.inl ⟨by rfl, fun w hSw => ?_⟩; go_simp; try with_reducible rfl)) hS ?_
        simp only [Act.put, List.setIfInBounds_toArray, List.set_cons_zero, List.set_cons_succ]
        refine wpAnyH_take (i := 20) (by simp only [List.getElem?_toArray, List.getElem?_cons_zero, List.getElem?_cons_succ]; rfl) (by kernel_rfl) (by kernel_rfl) (by kernel_rfl) (by exact fun _ _ _ h => h) (by first | exact Or.inr ⟨by rfl, rfl⟩ | (refine Or.inl ⟨by rfl, fun w hSw => ?_⟩; go_simp; try with_reducible rfl)) hS ?_
        simp only [Act.put, List.setIfInBounds_toArray, List.set_cons_zero, List.set_cons_succ]
        refine wpAnyH_done (by kernel_rfl) ?_ _
        clear hS S0
        go_wp2_with fail
        go_roundg (ss.length - (i + 1))
        case measure => have := HI.out; omega
        case rel => exact JN.out
      have hm : max k (-1) = k := by omega
      rw [hm] at OS
      clear hm
      have HKN : Hid (¬ k < -1) := Lib.hid (by omega)
      by_cases hgt : (xs.length : Int) > k
      · have ho : ok = false := by rw [OS.out, decide_eq_false (by omega)]; rfl
        have JN := Lib.hid (JS.out ho _ Kp.drew)
        clear JS IN OS XC ho
        go_upto_region 13 with fail
        have S0 : Hid (w5.heap.size ≤ w5.heap.size) := Lib.hid (Nat.le_refl _)
        refine wp_region_held_drew (S := fun y => w5.heap.size ≤ y.heap.size) rfl (by simp) (fun hS => ?_)
        refine wpAnyH_take (i := 0) (by simp only [List.getElem?_toArray, List.getElem?_cons_zero]; rfl) (by kernel_rfl) (by kernel_rfl) (by kernel_rfl) (by exact fun _ _ _ h => h) (by first | exact Or.inr ⟨by rfl, rfl⟩ | (refine Or.inl ⟨by rfl, fun w hSw => ?_⟩; go_simp; try with_reducible rfl)) hS ?_
        simp only [Act.put, List.setIfInBounds_toArray, List.set_cons_zero, List.set_cons_succ]
        refine wpAnyH_take (i := 1) (by simp only [List.getElem?_toArray, List.getElem?_cons_zero, List.getElem?_cons_succ]; rfl) (by kernel_rfl) (by kernel_rfl) (by kernel_rfl) (by exact fun _ _ _ h => h) (by first | exact Or.inr ⟨by rfl, rfl⟩ | (refine Or.inl ⟨by rfl, fun w hSw => ?_⟩; go_simp; try with_reducible rfl)) hS ?_
        simp only [Act.put, List.setIfInBounds_toArray, List.set_cons_zero, List.set_cons_succ]
        refine wpAnyH_take (i := 2) (by simp only [List.getElem?_toArray, List.getElem?_cons_zero, List.getElem?_cons_succ]; rfl) (by kernel_rfl) (by kernel_rfl) (by kernel_rfl) (by exact fun _ _ _ h => h) (by first | exact Or.inr ⟨by rfl, rfl⟩ | (refine Or.inl ⟨by rfl, fun w hSw => ?_⟩; go_simp; try with_reducible rfl)) hS ?_
        simp only [Act.put, List.setIfInBounds_toArray, List.set_cons_zero, List.set_cons_succ]
        refine wpAnyH_take (i := 3) (v := .int .i64 (k)) (by simp only [List.getElem?_toArray, List.getElem?_cons_zero, List.getElem?_cons_succ]; rfl) (by kernel_rfl) (by kernel_rfl) (by kernel_rfl) (by exact fun _ _ _ h => h) (by refine Or.inl ⟨by rfl, fun w hSw => ?_⟩; go_simp; first | done | omega | (intro h; omega) | rw [if_neg HKN.out]) hS ?_
        simp only [Act.put, List.setIfInBounds_toArray, List.set_cons_zero, List.set_cons_succ]
        refine wpAnyH_take (i := 4) (v := .bool true) (by simp only [List.getElem?_toArray, List.getElem?_cons_zero, List.getElem?_cons_succ]; rfl) (by kernel_rfl) (by kernel_rfl) (by kernel_rfl) (by exact fun _ _ _ h => h) (by refine Or.inl ⟨by rfl, fun w hSw => ?_⟩; go_simp; first | done | omega) hS ?_
        simp only [Act.put, List.setIfInBounds_toArray, List.set_cons_zero, List.set_cons_succ]
        refine wpAnyH_take (i := 5) (by simp only [List.getElem?_toArray, List.getElem?_cons_zero, List.getElem?_cons_succ]; rfl) (by kernel_rfl) (by kernel_rfl) (by kernel_rfl) (by exact fun _ _ _ h => h) (by first | exact Or.inr ⟨by rfl, rfl⟩ | (refine Or.inl ⟨by rfl, fun w hSw => ?_⟩; go_simp; try with_reducible rfl)) hS ?_
        simp only [Act.put, List.setIfInBounds_toArray, List.set_cons_zero, List.set_cons_succ]
        refine wpAnyH_take (i := 6) (by simp only [List.getElem?_toArray, List.getElem?_cons_zero, List.getElem?_cons_succ]; rfl) (by kernel_rfl) (by kernel_rfl) (by kernel_rfl) (by exact fun _ _ _ h => h) (by first | exact Or.inr ⟨by rfl, rfl⟩ | (refine Or.inl ⟨by rfl, fun w hSw => ?_⟩; go_simp; try with_reducible rfl)) hS ?_
        simp only [Act.put, List.setIfInBounds_toArray, List.set_cons_zero, List.set_cons_succ]
        refine wpAnyH_take (i := 7) (by simp only [List.getElem?_toArray, List.getElem?_cons_zero, List.getElem?_cons_succ]; rfl) (by kernel_rfl) (by kernel_rfl) (by kernel_rfl) (by exact fun _ _ _ h => h) (by first | exact Or.inr ⟨by rfl, rfl⟩ | (refine Or.inl ⟨by rfl, fun w hSw => ?_⟩; go_simp; try with_reducible rfl)) hS ?_
        simp only [Act.put, List.setIfInBounds_toArray, List.set_cons_zero, List.set_cons_succ]
        refine wpAnyH_take (i := 8) (by simp only [List.getElem?_toArray, List.getElem?_cons_zero, List.getElem?_cons_succ]; rfl) (by kernel_rfl) (by kernel_rfl) (by kernel_rfl) (by exact fun _ _ _ h => h) (by first | exact Or.inr ⟨by rfl, rfl⟩ | (refine Or.inl ⟨by rfl, fun w hSw => ?_⟩; go_simp; try with_reducible rfl)) hS ?_
        simp only [Act.put, List.setIfInBounds_toArray, List.set_cons_zero, List.set_cons_succ]
        refine wpAnyH_take (i := 9) (by simp only [List.getElem?_toArray, List.getElem?_cons_zero, List.getElem?_cons_succ]; rfl) (by kernel_rfl) (by kernel_rfl) (by kernel_rfl) (by exact fun _ _ _ h => h) (by first | exact Or.inr ⟨by rfl, rfl⟩ | (refine Or.inl ⟨by rfl, fun w hSw => ?_⟩; go_simp; try with_reducible rfl)) hS ?_
        simp only [Act.put, List.setIfInBounds_toArray, List.set_cons_zero, List.set_cons_succ]
        refine wpAnyH_take (i := 10) (by simp only [List.getElem?_toArray, List.getElem?_cons_zero, List.getElem?_cons_succ]; rfl) (by kernel_rfl) (by kernel_rfl) (by kernel_rfl) (by exact fun _ _ _ h => h) (by first | exact Or.inr ⟨by rfl, rfl⟩ | (refine Or.inl ⟨by rfl, fun w hSw => ?_⟩; go_simp; try with_reducible rfl)) hS ?_
        simp only [Act.put, List.setIfInBounds_toArray, List.set_cons_zero, List.set_cons_succ]
        refine wpAnyH_take (i := 11) (by simp only [List.getElem?_toArray, List.getElem?_cons_zero, List.getElem?_cons_succ]; rfl) (by kernel_rfl) (by kernel_rfl) (by kernel_rfl) (by exact fun _ _ _ h => h) (by first | exact Or.inr ⟨by rfl, rfl⟩ | (refine Or.inl ⟨by rfl, fun w hSw => ?_⟩; go_simp; try with_reducible rfl)) hS ?_
        simp only [Act.put, List.setIfInBounds_toArray, List.set_cons_zero, List.set_cons_succ]
        refine wpAnyH_take (i := 12) (by simp only [List.getElem?_toArray, List.getElem?_cons_zero, List.getElem?_cons_succ]; rfl) (by kernel_rfl) (by kernel_rfl) (by kernel_rfl) (by exact fun _ _ _ h => h) (by first | exact Or.inr ⟨by rfl, rfl⟩ | (refine Or.inl ⟨by rfl, fun w hSw => ?_⟩; go_simp; try with_reducible rfl)) hS ?_
        simp only [Act.put, List.setIfInBounds_toArray, List.set_cons_zero, List.set_cons_succ]
        refine wpAnyH_take (i := 13) (by simp only [List.getElem?_toArray, List.getElem?_cons_zero, List.getElem?_cons_succ]; rfl) (by kernel_rfl) (by kernel_rfl) (by kernel_rfl) (by exact fun _ _ _ h => h) (by first | exact Or.inr ⟨by rfl, rfl⟩ | (refine Or.inl ⟨by rfl, fun w hSw => ?_⟩; go_simp; try with_reducible rfl)) hS ?_
        simp only [Act.put, List.setIfInBounds_toArray, List.set_cons_zero, List.set_cons_succ]
        refine wpAnyH_take (i := 14) (by simp only [List.getElem?_toArray, List.getElem?_cons_zero, List.getElem?_cons_succ]; rfl) (by kernel_rfl) (by kernel_rfl) (by kernel_rfl) (by exact fun _ _ _ h => h) (by first | exact Or.inr ⟨by rfl, rfl⟩ | (refine Or.inl ⟨by rfl, fun w hSw => ?_⟩; go_simp; try with_reducible rfl)) hS ?_
        simp only [Act.put, List.setIfInBounds_toArray, List.set_cons_zero, List.set_cons_succ]
        refine wpAnyH_take (i := 15) (by simp only [List.getElem?_toArray, List.getElem?_cons_zero, List.getElem?_cons_succ]; rfl) (by kernel_rfl) (by kernel_rfl) (by kernel_rfl) (by exact fun _ _ _ h => h) (by first | exact Or.inr ⟨by rfl, rfl⟩ | (refine Or.inl ⟨by rfl, fun w hSw => ?_⟩; go_simp; try with_reducible rfl)) hS ?_
        simp only [Act.put, List.setIfInBounds_toArray, List.set_cons_zero, List.set_cons_succ]
        refine wpAnyH_take (i := 16) (by simp only [List.getElem?_toArray, List.getElem?_cons_zero, List.getElem?_cons_succ]; rfl) (by kernel_rfl) (by kernel_rfl) (by kernel_rfl) (by exact fun _ _ _ h => h) (by first | exact Or.inr ⟨by rfl, rfl⟩ | (refine Or.inl ⟨by rfl, fun w hSw => ?_⟩; go_simp; try with_reducible rfl)) hS ?_
        simp only [Act.put, List.setIfInBounds_toArray, List.set_cons_zero, List.set_cons_succ]
        refine wpAnyH_take (i := 17) (by simp only [List.getElem?_toArray, List.getElem?_cons_zero, List.getElem?_cons_succ]; rfl) (by kernel_rfl) (by kernel_rfl) (by kernel_rfl) (by exact fun _ _ _ h => h) (by first | exact Or.inr ⟨by rfl, rfl⟩ | (refine Or.inl ⟨by rfl, fun w hSw => ?_⟩; go_simp; try with_reducible rfl)) hS ?_
        simp only [Act.put, List.setIfInBounds_toArray, List.set_cons_zero, List.set_cons_succ]
        refine wpAnyH_take (i := 18) (by simp only [List.getElem?_toArray, List.getElem?_cons_zero, List.getElem?_cons_succ]; rfl) (by kernel_rfl) (by kernel_rfl) (by kernel_rfl) (by exact fun _ _ _ h => h) (by first | exact Or.inr ⟨by rfl, rfl⟩ | (refine Or.inl ⟨by rfl, fun w hSw => ?_⟩; go_simp; try with_reducible rfl)) hS ?_
        simp only [Act.put, List.setIfInBounds_toArray, List.set_cons_zero, List.set_cons_succ]
        refine wpAnyH_take (i := 19) (by simp only [List.getElem?_toArray, List.getElem?_cons_zero, List.getElem?_cons_succ]; rfl) (by kernel_rfl) (by kernel_rfl) (by kernel_rfl) (by exact fun _ _ _ h => h) (by first | exact Or.inr ⟨by rfl, rfl⟩ | (refine Or.inl ⟨by rfl, fun w hSw => ?_⟩; go_simp; try with_reducible rfl)) hS ?_
        simp only [Act.put, List.setIfInBounds_toArray, List.set_cons_zero, List.set_cons_succ]
        refine wpAnyH_take (i := 20) (by simp only [List.getElem?_toArray, List.getElem?_cons_zero, List.getElem?_cons_succ]; rfl) (by kernel_rfl) (by kernel_rfl) (by kernel_rfl) (by exact fun _ _ _ h => h) (by first | exact Or.inr ⟨by rfl, rfl⟩ | (refine Or.inl ⟨by rfl, fun w hSw => ?_⟩; go_simp; try with_reducible rfl)) hS ?_
        simp only [Act.put, List.setIfInBounds_toArray, List.set_cons_zero, List.set_cons_succ]
        refine wpAnyH_done (by kernel_rfl) ?_ _
        clear hS S0
        go_wp2_with fail
        go_roundg (ss.length - (i + 1))
        case measure => have := HI.out; omega
        case rel => exact JN.out
      · rcases Nat.eq_zero_or_pos xs.length with h0 | hpos
        · obtain rfl : xs = [] := List.eq_nil_of_length_eq_zero h0
          have ho : ok = true := by rw [OS.out, decide_eq_true (by omega), decide_eq_true (Or.inl rfl)]; rfl
          have IC := Lib.hid (IN.out ho _ Kp.drew)
          clear JS IN OS XC ho h0
          simp only [List.length_nil, Int.natCast_zero] at *
          go_upto_region 13 with fail
          have S0 : Hid (w5.heap.size ≤ w5.heap.size) := Lib.hid (Nat.le_refl _)
          refine wp_region_held_drew (S := fun y => w5.heap.size ≤ y.heap.size) rfl (by simp) (fun hS => ?_)
          refine wpAnyH_take (i := 0) (by simp only [List.getElem?_toArray, List.getElem?_cons_zero]; rfl) (by kernel_rfl) (by kernel_rfl) (by kernel_rfl) (by exact fun _ _ _ h => h) (by first | exact Or.inr ⟨by rfl, rfl⟩ | (refine Or.inl ⟨by rfl, fun w hSw => ?_⟩; go_simp; try with_reducible rfl)) hS ?_
          simp only [Act.put, List.setIfInBounds_toArray, List.set_cons_zero, List.set_cons_succ]
          refine wpAnyH_take (i := 1) (by simp only [List.getElem?_toArray, List.getElem?_cons_zero, List.getElem?_cons_succ]; rfl) (by kernel_rfl) (by kernel_rfl) (by kernel_rfl) (by exact fun _ _ _ h => h) (by first | exact Or.inr ⟨by rfl, rfl⟩ | (refine Or.inl ⟨by rfl, fun w hSw => ?_⟩; go_simp; try with_reducible rfl)) hS ?_
          simp only [Act.put, List.setIfInBounds_toArray, List.set_cons_zero, List.set_cons_succ]
          refine wpAnyH_take (i := 2) (by simp only [List.getElem?_toArray, List.getElem?_cons_zero, List.getElem?_cons_succ]; rfl) (by kernel_rfl) (by kernel_rfl) (by kernel_rfl) (by exact fun _ _ _ h => h) (by first | exact Or.inr ⟨by rfl, rfl⟩ | (refine Or.inl ⟨by rfl, fun w hSw => ?_⟩; go_simp; try with_reducible rfl)) hS ?_
          simp only [Act.put, List.setIfInBounds_toArray, List.set_cons_zero, List.set_cons_succ]
          refine wpAnyH_take (i := 3) (v := .int .i64 (k)) (by simp only [List.getElem?_toArray, List.getElem?_cons_zero, List.getElem?_cons_succ]; rfl) (by kernel_rfl) (by kernel_rfl) (by kernel_rfl) (by exact fun _ _ _ h => h) (by refine Or.inl ⟨by rfl, fun w hSw => ?_⟩; go_simp; first | done | omega | (intro h; omega) | rw [if_neg HKN.out]) hS ?_
          simp only [Act.put, List.setIfInBounds_toArray, List.set_cons_zero, List.set_cons_succ]
          refine wpAnyH_take (i := 4) (v := .bool false) (by simp only [List.getElem?_toArray, List.getElem?_cons_zero, List.getElem?_cons_succ]; rfl) (by kernel_rfl) (by kernel_rfl) (by kernel_rfl) (by exact fun _ _ _ h => h) (by refine Or.inl ⟨by rfl, fun w hSw => ?_⟩; go_simp; first | done | omega) hS ?_
          simp only [Act.put, List.setIfInBounds_toArray, List.set_cons_zero, List.set_cons_succ]
          refine wpAnyH_take (i := 5) (by simp only [List.getElem?_toArray, List.getElem?_cons_zero, List.getElem?_cons_succ]; rfl) (by kernel_rfl) (by kernel_rfl) (by kernel_rfl) (by exact fun _ _ _ h => h) (by first | exact Or.inr ⟨by rfl, rfl⟩ | (refine Or.inl ⟨by rfl, fun w hSw => ?_⟩; go_simp; try with_reducible rfl)) hS ?_
          simp only [Act.put, List.setIfInBounds_toArray, List.set_cons_zero, List.set_cons_succ]
          refine wpAnyH_take (i := 6) (by simp only [List.getElem?_toArray, List.getElem?_cons_zero, List.getElem?_cons_succ]; rfl) (by kernel_rfl) (by kernel_rfl) (by kernel_rfl) (by exact fun _ _ _ h => h) (by first | exact Or.inr ⟨by rfl, rfl⟩ | (refine Or.inl ⟨by rfl, fun w hSw => ?_⟩; go_simp; try with_reducible rfl)) hS ?_
          simp only [Act.put, List.setIfInBounds_toArray, List.set_cons_zero, List.set_cons_succ]
          refine wpAnyH_take (i := 7) (by simp only [List.getElem?_toArray, List.getElem?_cons_zero, List.getElem?_cons_succ]; rfl) (by kernel_rfl) (by kernel_rfl) (by kernel_rfl) (by exact fun _ _ _ h => h) (by first | exact Or.inr ⟨by rfl, rfl⟩ | (refine Or.inl ⟨by rfl, fun w hSw => ?_⟩; go_simp; try with_reducible rfl)) hS ?_
          simp only [Act.put, List.setIfInBounds_toArray, List.set_cons_zero, List.set_cons_succ]
          refine wpAnyH_take (i := 8) (by simp only [List.getElem?_toArray, List.getElem?_cons_zero, List.getElem?_cons_succ]; rfl) (by kernel_rfl) (by kernel_rfl) (by kernel_rfl) (by exact fun _ _ _ h => h) (by first | exact Or.inr ⟨by rfl, rfl⟩ | (refine Or.inl ⟨by rfl, fun w hSw => ?_⟩; go_simp; try with_reducible rfl)) hS ?_
          simp only [Act.put, List.setIfInBounds_toArray, List.set_cons_zero, List.set_cons_succ]
          refine wpAnyH_take (i := 9) (by simp only [List.getElem?_toArray, List.getElem?_cons_zero, List.getElem?_cons_succ]; rfl) (by kernel_rfl) (by kernel_rfl) (by kernel_rfl) (by exact fun _ _ _ h => h) (by first | exact Or.inr ⟨by rfl, rfl⟩ | (refine Or.inl ⟨by rfl, fun w hSw => ?_⟩; go_simp; try with_reducible rfl)) hS ?_
          simp only [Act.put, List.setIfInBounds_toArray, List.set_cons_zero, List.set_cons_succ]
          refine wpAnyH_take (i := 10) (by simp only [List.getElem?_toArray, List.getElem?_cons_zero, List.getElem?_cons_succ]; rfl) (by kernel_rfl) (by kernel_rfl) (by kernel_rfl) (by exact fun _ _ _ h => h) (by first | exact Or.inr ⟨by rfl, rfl⟩ | (refine Or.inl ⟨by rfl, fun w hSw => ?_⟩; go_simp; try with_reducible rfl)) hS ?_
          simp only [Act.put, List.setIfInBounds_toArray, List.set_cons_zero, List.set_cons_succ]
          refine wpAnyH_take (i := 11) (by simp only [List.getElem?_toArray, List.getElem?_cons_zero, List.getElem?_cons_succ]; rfl) (by kernel_rfl) (by kernel_rfl) (by kernel_rfl) (by exact fun _ _ _ h => h) (by first | exact Or.inr ⟨by rfl, rfl⟩ | (refine Or.inl ⟨by rfl, fun w hSw => ?_⟩; go_simp; try with_reducible rfl)) hS ?_
          simp only [Act.put, List.setIfInBounds_toArray, List.set_cons_zero, List.set_cons_succ]
          refine wpAnyH_take (i := 12) (by simp only [List.getElem?_toArray, List.getElem?_cons_zero, List.getElem?_cons_succ]; rfl) (by kernel_rfl) (by kernel_rfl) (by kernel_rfl) (by exact fun _ _ _ h => h) (by first | exact Or.inr ⟨by rfl, rfl⟩ | (refine Or.inl ⟨by rfl, fun w hSw => ?_⟩; go_simp; try with_reducible rfl)) hS ?_
          simp only [Act.put, List.setIfInBounds_toArray, List.set_cons_zero, List.set_cons_succ]
          refine wpAnyH_take (i := 13) (by simp only [List.getElem?_toArray, List.getElem?_cons_zero, List.getElem?_cons_succ]; rfl) (by kernel_rfl) (by kernel_rfl) (by kernel_rfl) (by exact fun _ _ _ h => h) (by first | exact Or.inr ⟨by rfl, rfl⟩ | (refine Or.inl ⟨by rfl, fun w hSw => ?_⟩; go_simp; try with_reducible rfl)) hS ?_
          simp only [Act.put, List.setIfInBounds_toArray, List.set_cons_zero, List.set_cons_succ]
          refine wpAnyH_take (i := 14) (by simp only [List.getElem?_toArray, List.getElem?_cons_zero, List.getElem?_cons_succ]; rfl) (by kernel_rfl) (by kernel_rfl) (by kernel_rfl) (by exact fun _ _ _ h => h) (by first | exact Or.inr ⟨by rfl, rfl⟩ | (refine Or.inl ⟨by rfl, fun w hSw => ?_⟩; go_simp; try with_reducible rfl)) hS ?_
          simp only [Act.put, List.setIfInBounds_toArray, List.set_cons_zero, List.set_cons_succ]
          refine wpAnyH_take (i := 15) (by simp only [List.getElem?_toArray, List.getElem?_cons_zero, List.getElem?_cons_succ]; rfl) (by kernel_rfl) (by kernel_rfl) (by kernel_rfl) (by exact fun _ _ _ h => h) (by first | exact Or.inr ⟨by rfl, rfl⟩ | (refine Or.inl ⟨by rfl, fun w hSw => ?_⟩; go_simp; try with_reducible rfl)) hS ?_
          simp only [Act.put, List.setIfInBounds_toArray, List.set_cons_zero, List.set_cons_succ]
          refine wpAnyH_take (i := 16) (by simp only [List.getElem?_toArray, List.getElem?_cons_zero, List.getElem?_cons_succ]; rfl) (by kernel_rfl) (by kernel_rfl) (by kernel_rfl) (by exact fun _ _ _ h => h) (by first | exact Or.inr ⟨by rfl, rfl⟩ | (refine Or.inl ⟨by rfl, fun w hSw => ?_⟩; go_simp; try with_reducible rfl)) hS ?_
          simp only [Act.put, List.setIfInBounds_toArray, List.set_cons_zero, List.set_cons_succ]
          refine wpAnyH_take (i := 17) (by simp only [List.getElem?_toArray, List.getElem?_cons_zero, List.getElem?_cons_succ]; rfl) (by kernel_rfl) (by kernel_rfl) (by kernel_rfl) (by exact fun _ _ _ h => h) (by first | exact Or.inr ⟨by rfl, rfl⟩ | (refine Or.inl ⟨by rfl, fun w hSw => ?_⟩; go_simp; try with_reducible rfl)) hS ?_
          simp only [Act.put, List.setIfInBounds_toArray, List.set_cons_zero, List.set_cons_succ]
          refine wpAnyH_take (i := 18) (by simp only [List.getElem?_toArray, List.getElem?_cons_zero, List.getElem?_cons_succ]; rfl) (by kernel_rfl) (by kernel_rfl) (by kernel_rfl) (by exact fun _ _ _ h => h) (by first | exact Or.inr ⟨by rfl, rfl⟩ | (refine Or.inl ⟨by rfl, fun w hSw => ?_⟩; go_simp; try with_reducible rfl)) hS ?_
          simp only [Act.put, List.setIfInBounds_toArray, List.set_cons_zero, List.set_cons_succ]
          refine wpAnyH_take (i := 19) (by simp only [List.getElem?_toArray, List.getElem?_cons_zero, List.getElem?_cons_succ]; rfl) (by kernel_rfl) (by kernel_rfl) (by kernel_rfl) (by exact fun _ _ _ h => h) (by first | exact Or.inr ⟨by rfl, rfl⟩ | (refine Or.inl ⟨by rfl, fun w hSw => ?_⟩; go_simp; try with_reducible rfl)) hS ?_
          simp only [Act.put, List.setIfInBounds_toArray, List.set_cons_zero, List.set_cons_succ]
          refine wpAnyH_take (i := 20) (by simp only [List.getElem?_toArray, List.getElem?_cons_zero, List.getElem?_cons_succ]; rfl) (by kernel_rfl) (by kernel_rfl) (by kernel_rfl) (by exact fun _ _ _ h => h) (by first | exact Or.inr ⟨by rfl, rfl⟩ | (refine Or.inl ⟨by rfl, fun w hSw => ?_⟩; go_simp; try with_reducible rfl)) hS ?_
          simp only [Act.put, List.setIfInBounds_toArray, List.set_cons_zero, List.set_cons_succ]
          refine wpAnyH_done (by kernel_rfl) ?_ _
          clear hS S0
          go_wp2_with fail
          refine IC.out.mono ?_
          intro e w6 h6
          obtain ⟨v', rfl, h6⟩ := h6
          have JN := Lib.hid h6
          clear h6 IC
          go_wp2_with fail
          go_roundg (ss.length - (i + 1))
          case measure => have := HI.out; omega
          case rel => exact JN.out
        · obtain ⟨n, hn⟩ : ∃ n, xs.length = n + 1 := ⟨xs.length - 1, by omega⟩
          obtain ⟨gx, hax, hcell⟩ := XC.out n hn
          subst hax
          have hln : (xs.length : Int) - 1 = (n : Int) := by omega
          obtain ⟨la, hla⟩ : ∃ la, (xs.getD n 0 : Int) = la := ⟨_, rfl⟩
          rw [hla] at hcell
          obtain ⟨cl, hcl⟩ : ∃ cl, clamp3 links 0 12 = cl := ⟨_, rfl⟩
          have OS2 : Hid (ok = decide (la < cl)) := Lib.hid (by
            rw [OS.out, decide_eq_true (by omega), ← hla, ← hcl]
            have e : xs.length - 1 = n := by omega
            have ne : xs ≠ [] := fun h => by rw [h] at hpos; simp at hpos
            rw [e]; simp [ne])
          rw [hcl] at CL
          have S0 : Hid (w5.drew.cell? ⟨gx, n, none⟩ = some (.int .i64 la)) := Lib.hid (by rw [Kp.drew.cell (World.block_lt_of_cell? _ _ hcell) (fun x => x)]; exact hcell)
          have hn0 : (0 : Int) < (xs.length : Int) := by omega
          have hn1 : (n : Int) < (xs.length : Int) := by omega
          have hn2 : (0 : Int) ≤ (n : Int) := by omega
          have hn3 : (xs.length : Int) ≤ 12 := by omega
          have hwr : IntKind.i64.wrap (n : Int) = (n : Int) := IntWalk.i64_in _ ⟨by omega, by omega⟩
          clear XC OS hcell hla hcl hn hpos
          generalize xs.length = lx at *
          by_cases hc : la < cl
          · have ho : ok = true := by rw [OS2.out, decide_eq_true hc]
            have IC := Lib.hid (IN.out ho _ Kp.drew)
            have hc' : ¬ cl ≤ la := by omega
            clear IN JS OS2 ho
            go_upto_region 13 with fail
            refine wp_region_held_drew (S := fun y => y.cell? ⟨gx, n, none⟩ = some (.int .i64 la)) rfl S0.out (fun hS => ?_)
            refine wpAnyH_take (i := 0) (by simp only [List.getElem?_toArray, List.getElem?_cons_zero]; rfl) (by kernel_rfl) (by kernel_rfl) (by kernel_rfl) (by exact fun _ _ _ h => h) (by first | exact Or.inr ⟨by rfl, rfl⟩ | (refine Or.inl ⟨by rfl, fun w hSw => ?_⟩; go_simp; try with_reducible rfl)) hS ?_
            simp only [Act.put, List.setIfInBounds_toArray, List.set_cons_zero, List.set_cons_succ]
            refine wpAnyH_take (i := 1) (by simp only [List.getElem?_toArray, List.getElem?_cons_zero, List.getElem?_cons_succ]; rfl) (by kernel_rfl) (by kernel_rfl) (by kernel_rfl) (by exact fun _ _ _ h => h) (by first | exact Or.inr ⟨by rfl, rfl⟩ | (refine Or.inl ⟨by rfl, fun w hSw => ?_⟩; go_simp; try with_reducible rfl)) hS ?_
            simp only [Act.put, List.setIfInBounds_toArray, List.set_cons_zero, List.set_cons_succ]
            refine wpAnyH_take (i := 2) (by simp only [List.getElem?_toArray, List.getElem?_cons_zero, List.getElem?_cons_succ]; rfl) (by kernel_rfl) (by kernel_rfl) (by kernel_rfl) (by exact fun _ _ _ h => h) (by first | exact Or.inr ⟨by rfl, rfl⟩ | (refine Or.inl ⟨by rfl, fun w hSw => ?_⟩; go_simp; try with_reducible rfl)) hS ?_
            simp only [Act.put, List.setIfInBounds_toArray, List.set_cons_zero, List.set_cons_succ]
            refine wpAnyH_take (i := 3) (v := .int .i64 (k)) (by simp only [List.getElem?_toArray, List.getElem?_cons_zero, List.getElem?_cons_succ]; rfl) (by kernel_rfl) (by kernel_rfl) (by kernel_rfl) (by exact fun _ _ _ h => h) (by refine Or.inl ⟨by rfl, fun w hSw => ?_⟩; go_simp; first | done | omega | (intro h; omega) | rw [if_neg HKN.out]) hS ?_
            simp only [Act.put, List.setIfInBounds_toArray, List.set_cons_zero, List.set_cons_succ]
            refine wpAnyH_take (i := 4) (v := .bool false) (by simp only [List.getElem?_toArray, List.getElem?_cons_zero, List.getElem?_cons_succ]; rfl) (by kernel_rfl) (by kernel_rfl) (by kernel_rfl) (by exact fun _ _ _ h => h) (by refine Or.inl ⟨by rfl, fun w hSw => ?_⟩; go_simp; first | done | omega) hS ?_
            simp only [Act.put, List.setIfInBounds_toArray, List.set_cons_zero, List.set_cons_succ]
            refine wpAnyH_take (i := 5) (by simp only [List.getElem?_toArray, List.getElem?_cons_zero, List.getElem?_cons_succ]; rfl) (by kernel_rfl) (by kernel_rfl) (by kernel_rfl) (by exact fun _ _ _ h => h) (by first | exact Or.inr ⟨by rfl, rfl⟩ | (refine Or.inl ⟨by rfl, fun w hSw => ?_⟩; go_simp; try with_reducible rfl)) hS ?_
            simp only [Act.put, List.setIfInBounds_toArray, List.set_cons_zero, List.set_cons_succ]
            refine wpAnyH_take (i := 6) (by simp only [List.getElem?_toArray, List.getElem?_cons_zero, List.getElem?_cons_succ]; rfl) (by kernel_rfl) (by kernel_rfl) (by kernel_rfl) (by exact fun _ _ _ h => h) (by first | exact Or.inr ⟨by rfl, rfl⟩ | (refine Or.inl ⟨by rfl, fun w hSw => ?_⟩; go_simp; try with_reducible rfl)) hS ?_
            simp only [Act.put, List.setIfInBounds_toArray, List.set_cons_zero, List.set_cons_succ]
            refine wpAnyH_take (i := 7) (by simp only [List.getElem?_toArray, List.getElem?_cons_zero, List.getElem?_cons_succ]; rfl) (by kernel_rfl) (by kernel_rfl) (by kernel_rfl) (by exact fun _ _ _ h => h) (by first | exact Or.inr ⟨by rfl, rfl⟩ | (refine Or.inl ⟨by rfl, fun w hSw => ?_⟩; go_simp; try with_reducible rfl)) hS ?_
            simp only [Act.put, List.setIfInBounds_toArray, List.set_cons_zero, List.set_cons_succ]
            refine wpAnyH_take (i := 8) (v := .bool true) (by simp only [List.getElem?_toArray, List.getElem?_cons_zero, List.getElem?_cons_succ]; rfl) (by kernel_rfl) (by kernel_rfl) (by kernel_rfl) (by exact fun _ _ _ h => h) (by refine Or.inl ⟨by rfl, fun w hSw => ?_⟩; go_simp; first | done | omega) hS ?_
            simp only [Act.put, List.setIfInBounds_toArray, List.set_cons_zero, List.set_cons_succ]
            refine wpAnyH_take (i := 9) (by simp only [List.getElem?_toArray, List.getElem?_cons_zero, List.getElem?_cons_succ]; rfl) (by kernel_rfl) (by kernel_rfl) (by kernel_rfl) (by exact fun _ _ _ h => h) (by first | exact Or.inr ⟨by rfl, rfl⟩ | (refine Or.inl ⟨by rfl, fun w hSw => ?_⟩; go_simp; try with_reducible rfl)) hS ?_
            simp only [Act.put, List.setIfInBounds_toArray, List.set_cons_zero, List.set_cons_succ]
            refine wpAnyH_take (i := 10) (by simp only [List.getElem?_toArray, List.getElem?_cons_zero, List.getElem?_cons_succ]; rfl) (by kernel_rfl) (by kernel_rfl) (by kernel_rfl) (by exact fun _ _ _ h => h) (by first | exact Or.inr ⟨by rfl, rfl⟩ | (refine Or.inl ⟨by rfl, fun w hSw => ?_⟩; go_simp; try with_reducible rfl)) hS ?_
            simp only [Act.put, List.setIfInBounds_toArray, List.set_cons_zero, List.set_cons_succ]
            refine wpAnyH_take (i := 11) (by simp only [List.getElem?_toArray, List.getElem?_cons_zero, List.getElem?_cons_succ]; rfl) (by kernel_rfl) (by kernel_rfl) (by kernel_rfl) (by exact fun _ _ _ h => h) (by first | exact Or.inr ⟨by rfl, rfl⟩ | (refine Or.inl ⟨by rfl, fun w hSw => ?_⟩; go_simp; try with_reducible rfl)) hS ?_
            simp only [Act.put, List.setIfInBounds_toArray, List.set_cons_zero, List.set_cons_succ]
            refine wpAnyH_take (i := 12) (by simp only [List.getElem?_toArray, List.getElem?_cons_zero, List.getElem?_cons_succ]; rfl) (by kernel_rfl) (by kernel_rfl) (by kernel_rfl) (by exact fun _ _ _ h => h) (by first | exact Or.inr ⟨by rfl, rfl⟩ | (refine Or.inl ⟨by rfl, fun w hSw => ?_⟩; go_simp; try with_reducible rfl)) hS ?_
            simp only [Act.put, List.setIfInBounds_toArray, List.set_cons_zero, List.set_cons_succ]
            refine wpAnyH_take (i := 13) (v := .int .i64 (n : Int)) (by simp only [List.getElem?_toArray, List.getElem?_cons_zero, List.getElem?_cons_succ]; rfl) (by kernel_rfl) (by kernel_rfl) (by kernel_rfl) (by exact fun _ _ _ h => h) (by refine Or.inl ⟨by rfl, fun w hSw => ?_⟩; go_simp; first | done | omega | (rw [hln, hwr])) hS ?_
            simp only [Act.put, List.setIfInBounds_toArray, List.set_cons_zero, List.set_cons_succ]
            refine wpAnyH_take (i := 14) (by simp only [List.getElem?_toArray, List.getElem?_cons_zero, List.getElem?_cons_succ]; rfl) (by kernel_rfl) (by kernel_rfl) (by kernel_rfl) (by exact fun _ _ _ h => h) (by first | exact Or.inr ⟨by rfl, rfl⟩ | (refine Or.inl ⟨by rfl, fun w hSw => ?_⟩; go_simp; try with_reducible rfl)) hS ?_
            simp only [Act.put, List.setIfInBounds_toArray, List.set_cons_zero, List.set_cons_succ]
            refine wpAnyH_take (i := 15) (by simp only [List.getElem?_toArray, List.getElem?_cons_zero, List.getElem?_cons_succ]; rfl) (by kernel_rfl) (by kernel_rfl) (by kernel_rfl) (by exact fun _ _ _ h => h) (by first | exact Or.inr ⟨by rfl, rfl⟩ | (refine Or.inl ⟨by rfl, fun w hSw => ?_⟩; go_simp; try with_reducible rfl)) hS ?_
            simp only [Act.put, List.setIfInBounds_toArray, List.set_cons_zero, List.set_cons_succ]
            refine wpAnyH_take (i := 16) (by simp only [List.getElem?_toArray, List.getElem?_cons_zero, List.getElem?_cons_succ]; rfl) (by kernel_rfl) (by kernel_rfl) (by kernel_rfl) (by exact fun _ _ _ h => h) (by first | exact Or.inr ⟨by rfl, rfl⟩ | (refine Or.inl ⟨by rfl, fun w hSw => ?_⟩; go_simp; try with_reducible rfl)) hS ?_
            simp only [Act.put, List.setIfInBounds_toArray, List.set_cons_zero, List.set_cons_succ]
            refine wpAnyH_ready (rs := [17]) (by kernel_rfl) (by simp) ?_
            refine AllReadyH.cons rfl (fun K hK => ?_) ?_
            · go_simp
              go_at_call 15
              refine (CL.out _).mono ?_
              rintro e wz ⟨rfl, rfl⟩
              go_wp2_with fail
              refine hK.out _ _ (by exact hS) (fun hHeld => ?_)
              clear hK K hS
              have hS := hHeld
              clear hHeld
              try simp only [Act.put, List.setIfInBounds_toArray, List.set_cons_zero, List.set_cons_succ]
              refine wpAnyH_take (i := 18) (by simp only [List.getElem?_toArray, List.getElem?_cons_zero, List.getElem?_cons_succ]; rfl) (by kernel_rfl) (by kernel_rfl) (by kernel_rfl) (by exact fun _ _ _ h => h) (by first | exact Or.inr ⟨by rfl, rfl⟩ | (refine Or.inl ⟨by rfl, fun w hSw => ?_⟩; go_simp; try with_reducible rfl)) hS ?_
              simp only [Act.put, List.setIfInBounds_toArray, List.set_cons_zero, List.set_cons_succ]
              refine wpAnyH_take (i := 19) (by simp only [List.getElem?_toArray, List.getElem?_cons_zero, List.getElem?_cons_succ]; rfl) (by kernel_rfl) (by kernel_rfl) (by kernel_rfl) (by exact fun _ _ _ h => h) (by first | exact Or.inr ⟨by rfl, rfl⟩ | (refine Or.inl ⟨by rfl, fun w hSw => ?_⟩; go_simp; try with_reducible rfl)) hS ?_
              simp only [Act.put, List.setIfInBounds_toArray, List.set_cons_zero, List.set_cons_succ]
              refine wpAnyH_take (i := 20) (by simp only [List.getElem?_toArray, List.getElem?_cons_zero, List.getElem?_cons_succ]; rfl) (by kernel_rfl) (by kernel_rfl) (by kernel_rfl) (by exact fun _ _ _ h => h) (by first | exact Or.inr ⟨by rfl, rfl⟩ | (refine Or.inl ⟨by rfl, fun w hSw => ?_⟩; go_simp; try with_reducible rfl)) hS ?_
              simp only [Act.put, List.setIfInBounds_toArray, List.set_cons_zero, List.set_cons_succ]
              refine wpAnyH_done (by kernel_rfl) ?_ _
              clear hS S0
              go_wp2_with fail
              refine IC.out.mono ?_
              intro e w6 h6
              obtain ⟨v', rfl, h6⟩ := h6
              have JN := Lib.hid h6
              clear h6 IC
              go_wp2_with fail
              go_roundg (ss.length - (i + 1))
              case measure => have := HI.out; omega
              case rel => exact JN.out
            · exact AllReadyH.nil
          · have ho : ok = false := by rw [OS2.out, decide_eq_false hc]
            have JN := Lib.hid (JS.out ho _ Kp.drew)
            have hc' : cl ≤ la := by omega
            clear IN JS OS2 ho
            go_upto_region 13 with fail
            refine wp_region_held_drew (S := fun y => y.cell? ⟨gx, n, none⟩ = some (.int .i64 la)) rfl S0.out (fun hS => ?_)
            refine wpAnyH_take (i := 0) (by simp only [List.getElem?_toArray, List.getElem?_cons_zero]; rfl) (by kernel_rfl) (by kernel_rfl) (by kernel_rfl) (by exact fun _ _ _ h => h) (by first | exact Or.inr ⟨by rfl, rfl⟩ | (refine Or.inl ⟨by rfl, fun w hSw => ?_⟩; go_simp; try with_reducible rfl)) hS ?_
            simp only [Act.put, List.setIfInBounds_toArray, List.set_cons_zero, List.set_cons_succ]
            refine wpAnyH_take (i := 1) (by simp only [List.getElem?_toArray, List.getElem?_cons_zero, List.getElem?_cons_succ]; rfl) (by kernel_rfl) (by kernel_rfl) (by kernel_rfl) (by exact fun _ _ _ h => h) (by first | exact Or.inr ⟨by rfl, rfl⟩ | (refine Or.inl ⟨by rfl, fun w hSw => ?_⟩; go_simp; try with_reducible rfl)) hS ?_
            simp only [Act.put, List.setIfInBounds_toArray, List.set_cons_zero, List.set_cons_succ]
            refine wpAnyH_take (i := 2) (by simp only [List.getElem?_toArray, List.getElem?_cons_zero, List.getElem?_cons_succ]; rfl) (by kernel_rfl) (by kernel_rfl) (by kernel_rfl) (by exact fun _ _ _ h => h) (by first | exact Or.inr ⟨by rfl, rfl⟩ | (refine Or.inl ⟨by rfl, fun w hSw => ?_⟩; go_simp; try with_reducible rfl)) hS ?_
            simp only [Act.put, List.setIfInBounds_toArray, List.set_cons_zero, List.set_cons_succ]
            refine wpAnyH_take (i := 3) (v := .int .i64 (k)) (by simp only [List.getElem?_toArray, List.getElem?_cons_zero, List.getElem?_cons_succ]; rfl) (by kernel_rfl) (by kernel_rfl) (by kernel_rfl) (by exact fun _ _ _ h => h) (by refine Or.inl ⟨by rfl, fun w hSw => ?_⟩; go_simp; first | done | omega | (intro h; omega) | rw [if_neg HKN.out]) hS ?_
            simp only [Act.put, List.setIfInBounds_toArray, List.set_cons_zero, List.set_cons_succ]
            refine wpAnyH_take (i := 4) (v := .bool false) (by simp only [List.getElem?_toArray, List.getElem?_cons_zero, List.getElem?_cons_succ]; rfl) (by kernel_rfl) (by kernel_rfl) (by kernel_rfl) (by exact fun _ _ _ h => h) (by refine Or.inl ⟨by rfl, fun w hSw => ?_⟩; go_simp; first | done | omega) hS ?_
            simp only [Act.put, List.setIfInBounds_toArray, List.set_cons_zero, List.set_cons_succ]
            refine wpAnyH_take (i := 5) (by simp only [List.getElem?_toArray, List.getElem?_cons_zero, List.getElem?_cons_succ]; rfl) (by kernel_rfl) (by kernel_rfl) (by kernel_rfl) (by exact fun _ _ _ h => h) (by first | exact Or.inr ⟨by rfl, rfl⟩ | (refine Or.inl ⟨by rfl, fun w hSw => ?_⟩; go_simp; try with_reducible rfl)) hS ?_
            simp only [Act.put, List.setIfInBounds_toArray, List.set_cons_zero, List.set_cons_succ]
            refine wpAnyH_take (i := 6) (by simp only [List.getElem?_toArray, List.getElem?_cons_zero, List.getElem?_cons_succ]; rfl) (by kernel_rfl) (by kernel_rfl) (by kernel_rfl) (by exact fun _ _ _ h => h) (by first | exact Or.inr ⟨by rfl, rfl⟩ | (refine Or.inl ⟨by rfl, fun w hSw => ?_⟩; go_simp; try with_reducible rfl)) hS ?_
            simp only [Act.put, List.setIfInBounds_toArray, List.set_cons_zero, List.set_cons_succ]
            refine wpAnyH_take (i := 7) (by simp only [List.getElem?_toArray, List.getElem?_cons_zero, List.getElem?_cons_succ]; rfl) (by kernel_rfl) (by kernel_rfl) (by kernel_rfl) (by exact fun _ _ _ h => h) (by first | exact Or.inr ⟨by rfl, rfl⟩ | (refine Or.inl ⟨by rfl, fun w hSw => ?_⟩; go_simp; try with_reducible rfl)) hS ?_
            simp only [Act.put, List.setIfInBounds_toArray, List.set_cons_zero, List.set_cons_succ]
            refine wpAnyH_take (i := 8) (v := .bool true) (by simp only [List.getElem?_toArray, List.getElem?_cons_zero, List.getElem?_cons_succ]; rfl) (by kernel_rfl) (by kernel_rfl) (by kernel_rfl) (by exact fun _ _ _ h => h) (by refine Or.inl ⟨by rfl, fun w hSw => ?_⟩; go_simp; first | done | omega) hS ?_
            simp only [Act.put, List.setIfInBounds_toArray, List.set_cons_zero, List.set_cons_succ]
            refine wpAnyH_take (i := 9) (by simp only [List.getElem?_toArray, List.getElem?_cons_zero, List.getElem?_cons_succ]; rfl) (by kernel_rfl) (by kernel_rfl) (by kernel_rfl) (by exact fun _ _ _ h => h) (by first | exact Or.inr ⟨by rfl, rfl⟩ | (refine Or.inl ⟨by rfl, fun w hSw => ?_⟩; go_simp; try with_reducible rfl)) hS ?_
            simp only [Act.put, List.setIfInBounds_toArray, List.set_cons_zero, List.set_cons_succ]
            refine wpAnyH_take (i := 10) (by simp only [List.getElem?_toArray, List.getElem?_cons_zero, List.getElem?_cons_succ]; rfl) (by kernel_rfl) (by kernel_rfl) (by kernel_rfl) (by exact fun _ _ _ h => h) (by first | exact Or.inr ⟨by rfl, rfl⟩ | (refine Or.inl ⟨by rfl, fun w hSw => ?_⟩; go_simp; try with_reducible rfl)) hS ?_
            simp only [Act.put, List.setIfInBounds_toArray, List.set_cons_zero, List.set_cons_succ]
            refine wpAnyH_take (i := 11) (by simp only [List.getElem?_toArray, List.getElem?_cons_zero, List.getElem?_cons_succ]; rfl) (by kernel_rfl) (by kernel_rfl) (by kernel_rfl) (by exact fun _ _ _ h => h) (by first | exact Or.inr ⟨by rfl, rfl⟩ | (refine Or.inl ⟨by rfl, fun w hSw => ?_⟩; go_simp; try with_reducible rfl)) hS ?_
            simp only [Act.put, List.setIfInBounds_toArray, List.set_cons_zero, List.set_cons_succ]
            refine wpAnyH_take (i := 12) (by simp only [List.getElem?_toArray, List.getElem?_cons_zero, List.getElem?_cons_succ]; rfl) (by kernel_rfl) (by kernel_rfl) (by kernel_rfl) (by exact fun _ _ _ h => h) (by first | exact Or.inr ⟨by rfl, rfl⟩ | (refine Or.inl ⟨by rfl, fun w hSw => ?_⟩; go_simp; try with_reducible rfl)) hS ?_
            simp only [Act.put, List.setIfInBounds_toArray, List.set_cons_zero, List.set_cons_succ]
            refine wpAnyH_take (i := 13) (v := .int .i64 (n : Int)) (by simp only [List.getElem?_toArray, List.getElem?_cons_zero, List.getElem?_cons_succ]; rfl) (by kernel_rfl) (by kernel_rfl) (by kernel_rfl) (by exact fun _ _ _ h => h) (by refine Or.inl ⟨by rfl, fun w hSw => ?_⟩; go_simp; first | done | omega | (rw [hln, hwr])) hS ?_
            simp only [Act.put, List.setIfInBounds_toArray, List.set_cons_zero, List.set_cons_succ]
            refine wpAnyH_take (i := 14) (by simp only [List.getElem?_toArray, List.getElem?_cons_zero, List.getElem?_cons_succ]; rfl) (by kernel_rfl) (by kernel_rfl) (by kernel_rfl) (by exact fun _ _ _ h => h) (by first | exact Or.inr ⟨by rfl, rfl⟩ | (refine Or.inl ⟨by rfl, fun w hSw => ?_⟩; go_simp; try with_reducible rfl)) hS ?_
            simp only [Act.put, List.setIfInBounds_toArray, List.set_cons_zero, List.set_cons_succ]
            refine wpAnyH_take (i := 15) (by simp only [List.getElem?_toArray, List.getElem?_cons_zero, List.getElem?_cons_succ]; rfl) (by kernel_rfl) (by kernel_rfl) (by kernel_rfl) (by exact fun _ _ _ h => h) (by first | exact Or.inr ⟨by rfl, rfl⟩ | (refine Or.inl ⟨by rfl, fun w hSw => ?_⟩; go_simp; try with_reducible rfl)) hS ?_
            simp only [Act.put, List.setIfInBounds_toArray, List.set_cons_zero, List.set_cons_succ]
            refine wpAnyH_take (i := 16) (by simp only [List.getElem?_toArray, List.getElem?_cons_zero, List.getElem?_cons_succ]; rfl) (by kernel_rfl) (by kernel_rfl) (by kernel_rfl) (by exact fun _ _ _ h => h) (by first | exact Or.inr ⟨by rfl, rfl⟩ | (refine Or.inl ⟨by rfl, fun w hSw => ?_⟩; go_simp; try with_reducible rfl)) hS ?_
            simp only [Act.put, List.setIfInBounds_toArray, List.set_cons_zero, List.set_cons_succ]
            refine wpAnyH_ready (rs := [17]) (by kernel_rfl) (by simp) ?_
            refine AllReadyH.cons rfl (fun K hK => ?_) ?_
            · go_simp
              go_at_call 15
              refine (CL.out _).mono ?_
              rintro e wz ⟨rfl, rfl⟩
              go_wp2_with fail
              refine hK.out _ _ (by exact hS) (fun hHeld => ?_)
              clear hK K hS
              have hS := hHeld
              clear hHeld
              try simp only [Act.put, List.setIfInBounds_toArray, List.set_cons_zero, List.set_cons_succ]
              refine wpAnyH_take (i := 18) (by simp only [List.getElem?_toArray, List.getElem?_cons_zero, List.getElem?_cons_succ]; rfl) (by kernel_rfl) (by kernel_rfl) (by kernel_rfl) (by exact fun _ _ _ h => h) (by first | exact Or.inr ⟨by rfl, rfl⟩ | (refine Or.inl ⟨by rfl, fun w hSw => ?_⟩; go_simp; try with_reducible rfl)) hS ?_
              simp only [Act.put, List.setIfInBounds_toArray, List.set_cons_zero, List.set_cons_succ]
              refine wpAnyH_take (i := 19) (by simp only [List.getElem?_toArray, List.getElem?_cons_zero, List.getElem?_cons_succ]; rfl) (by kernel_rfl) (by kernel_rfl) (by kernel_rfl) (by exact fun _ _ _ h => h) (by first | exact Or.inr ⟨by rfl, rfl⟩ | (refine Or.inl ⟨by rfl, fun w hSw => ?_⟩; go_simp; try with_reducible rfl)) hS ?_
              simp only [Act.put, List.setIfInBounds_toArray, List.set_cons_zero, List.set_cons_succ]
              refine wpAnyH_take (i := 20) (by simp only [List.getElem?_toArray, List.getElem?_cons_zero, List.getElem?_cons_succ]; rfl) (by kernel_rfl) (by kernel_rfl) (by kernel_rfl) (by exact fun _ _ _ h => h) (by first | exact Or.inr ⟨by rfl, rfl⟩ | (refine Or.inl ⟨by rfl, fun w hSw => ?_⟩; go_simp; try with_reducible rfl)) hS ?_
              simp only [Act.put, List.setIfInBounds_toArray, List.set_cons_zero, List.set_cons_succ]
              refine wpAnyH_done (by kernel_rfl) ?_ _
              clear hS S0
              go_wp2_with fail
              go_roundg (ss.length - (i + 1))
              case measure => have := HI.out; omega
              case rel => exact JN.out
            · exact AllReadyH.nil
    · obtain rfl : i = ss.length := by omega
      have hf1 := HF.out
      have ne1 := NE.out
      rw [List.take_length] at hf1 ne1
      obtain ⟨_, hwm, hwl⟩ := wantL_all links k ss ss.length (Nat.le_refl _)
      rw [List.take_length] at hwl hwm
      have SMALL : Hid (∀ y, y ∈ wantL links k ss → y.length ≤ 1000) := Lib.hid (fun y hy => by
        obtain ⟨s, _, _, rfl⟩ := (hwm y).1 hy
        have := dwL_len s; omega)
      have KE := Lib.hid (hf1.kpNo K2.out O2.out)
      have NW := Lib.hid ne1
      have LEQ := Lib.hid (fun (h0 : 0 ≤ k) (h2 : k ≤ 2) => lists_eq ss links h0 h2)
      have SAR := Lib.hid (fun (h : k < 0 ∨ 2 < k) => Sets_arg f (orF ss) (.head _) links k h hf1.rep hf1.qk)
      have SEQ := Lib.hid (fun (h1 : 0 ≤ k) (h2 : k ≤ 2) => Sets_ok f (orF ss) (.head _) (orF_rd ss) (sup_lt hf1.qk (.head _) (orF_rd ss)) links k h1 h2 hf1.rep hf1.qk hf1.gl)
      have hge : ¬ (ss.length : Int) < ss.length := by omega
      have hwl2 : (wantL links k ss).length ≤ 30 := by omega
      obtain ⟨av, cv, rfl⟩ := ne1.form
      clear hf1 ne1 HF NE hlt S2 H2 HI hwm hwl K2 O2 LTS CL
      by_cases hk0 : k < 0
      · have SA := Lib.hid (SAR.out (.inl hk0))
        clear SAR SEQ LEQ NW SMALL
        generalize (wantL links k ss).length = nl at *
        go_wp2_with fail
        refine SA.out.mono ?_
        rintro e w6 ⟨rfl, k6⟩
        have KF := Lib.hid (KE.out.trans_no k6)
        clear k6 SA
        go_wp2_with fail
        go_ret
        exact ⟨rfl, KF.out⟩
      by_cases hk2 : 2 < k
      · have SA := Lib.hid (SAR.out (.inr hk2))
        clear SAR SEQ LEQ NW SMALL
        generalize (wantL links k ss).length = nl at *
        go_wp2_with fail
        refine SA.out.mono ?_
        rintro e w6 ⟨rfl, k6⟩
        have KF := Lib.hid (KE.out.trans_no k6)
        clear k6 SA
        go_wp2_with fail
        go_ret
        exact ⟨rfl, KF.out⟩
      have SE := Lib.hid (SEQ.out (by omega) (by omega))
      rw [LEQ.out (by omega) (by omega)] at SE
      clear SAR SEQ LEQ
      generalize wantL links k ss = wl at *
      have hwi : (wl.length : Int) ≤ 30 := by omega
      go_wp2_with fail
      refine SE.out.mono ?_
      rintro e w6 ⟨v6, g6, rfl, nb, k6⟩
      obtain ⟨a6, c6, rfl⟩ : ∃ a c, v6 = .slice a wl.length c := by
        obtain ⟨vs, h1, h2, _, h4⟩ := nb
        exact row_form h2
      have NB := Lib.hid nb
      have NV := Lib.hid (NW.out.no k6)
      have KF := Lib.hid (KE.out.trans_no k6)
      have C0 : Hid (FlC w6 wl.length wl.length (.int .i64 0) w6) := Lib.hid ⟨0, by omega, rfl, Kp.refl _ _⟩
      clear nb k6 SE NW KE
      go_wp2_with fail
      go_loopg [14] wl.length (fun gk s14 x => FlC w6 wl.length gk s14 x)
      case atStart => exact C0.out
      case round =>
        clear C0
        obtain ⟨j, hj, rfl, kx⟩ := hrel
        by_cases hlt : j < wl.length
        · obtain ⟨ga, ca, xa, hva, hca, rowa⟩ := NB.out.at hlt
          obtain ⟨gb, cb, xb, hvb, hcb, rowb⟩ := NV.out.at hlt
          have ha2 : a6 = some ⟨ga, 0, none⟩ := by injection hva
          have hb2 : av = some ⟨gb, 0, none⟩ := by injection hvb
          subst ha2 hb2
          have qa : wr.cell? ⟨ga, j, none⟩ = some xa := by rw [kx.cell (World.block_lt_of_cell? _ _ hca) (fun x => x)]; exact hca
          have qb : wr.cell? ⟨gb, j, none⟩ = some xb := by rw [kx.cell (World.block_lt_of_cell? _ _ hcb) (fun x => x)]; exact hcb
          have e1 : wl.getD j [] = wl[j] := by simp [hlt]
          rw [e1] at rowa
          have IE : Hid (∀ y, Kp No wr y → Calls Tryd.prog 18 #[xa, xb] y fun e w' => e = .returned (.bool true) ∧ ∃ m, w' = y.drewN m) := Lib.hid (fun y ky => Ints_eq (l := wl[j].map Int.ofNat) (by rw [List.length_map, nat_int_map]; exact SrcAt.of_row (ownsRow_kp rowa (kx.trans_no ky) (fun _ _ z => z))) (by rw [List.length_map, nat_int_map]; exact SrcAt.of_row (ownsRow_kp rowb (kx.trans_no ky) (fun _ _ z => z))) (by rw [List.length_map]; have := SMALL.out _ (List.getElem_mem hlt); omega))
          have JN : Hid (∀ d, FlC w6 wl.length (wl.length - (j + 1)) (.int .i64 ((j + 1 : Nat) : Int)) (wr.drewN d)) := Lib.hid (fun d => ⟨j + 1, by omega, rfl, kx.trans_no (Kp.drewN d)⟩)
          have hlti : (j : Int) < wl.length := by omega
          have HJ := Lib.hid hj
          clear hva hvb hca hcb rowa rowb e1 hj kx
          go_wp2_with fail
          go_quiet ((go_at_call 18; exact Calls.quiet_of (IE.out _ (Kp.drewN _))))
          go_wp2_with fail
          go_roundg (wl.length - (j + 1))
          case measure => have := HJ.out; omega
          case rel => exact JN.out _
        · obtain rfl : j = wl.length := by omega
          have hge : ¬ (wl.length : Int) < wl.length := by omega
          have KG := Lib.hid (KF.out.trans_no kx)
          clear hj kx hlt
          go_wp2_with fail
          go_ret
          exact ⟨rfl, KG.out⟩

end Go.Proofs.YtohinonkfhkclaaDoor
