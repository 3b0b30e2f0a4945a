/-
  Walks: the law FailureRefuses.
-/
import Derived.Test.YtgglkldoclejaaaDoorFp
import Derived.Deep.CutBlock
namespace Go.Proofs.YtgglkldoclejaaaDoor
open Go.RowKit

/-- 'append' of a whole list, behind a guard that says yes. -/
theorem wpList_append_srcH {P : Program} {w : World} {ops : Array Oper} {rest : List Oper} {o : Oper} {a : Act} {Q : Exit → Act → World → Prop} (hgd : Region.wanted o (yielded ops a.tmps) = true) (s x : Operand) {t : TypeId}
    (ho : o.op = .call { callee := .builtin .append, args := #[s, x], argTypes := #[t, t] })
    {base : Nat} {e : TypeId} {i : TypeInfo} {z : Value} {size bytes : Nat} (ht : P.underlying t = some (.slice e)) (hi : P.info? e = some i) (hz : i.zero = some z)
    (hsize : i.size = size) (hby : i.bytes = bytes) (hzs : z.cells.size = size) (hsz : 0 < size) {v u : Value} {n m : Nat} {xs news : List Value} (hs : a.eval s = v) (hown : w.ownsRow base e size v n xs) (hx : a.eval x = u) (hsrc : SrcAt w u size m news)
    (h1 : ∀ x ∈ news, x.oneCell' = true) (h63 : n + m ≤ maxLen) (hbytes : (n + m) * bytes ≤ 140737488355328) (hbase : base ≤ w.heap.size)
    (h : ∀ v' w', w'.ownsRow base e size v' (n + m) (xs ++ news) → w.grownBy w' v.ownBlock → (v'.ownBlock = v.ownBlock ∨ v'.ownBlock = some w.heap.size) → wpList P ops Q rest (a.put o.dst v') w') : wpList P ops Q (o :: rest) a w :=
  BigFrame.wpList_want hgd fun _ hK => wp_append_src ho ht hi hz hsize hby hzs hsz hs hown hx hsrc h1 h63 hbytes hbase fun v' w' h2 h3 h4 => hK _ _ (h v' w' h2 h3 h4)

set_option maxRecDepth 100000 in
theorem index_arr12 (x : Nat → Bool) {k : Nat} (hk : k < 12) (w : World) : (Instr.index 114 (.agg (arr12 x)) (.int .i64 (k : Int))).run Tryd.prog w = .ok (.bool (x k)) w := by
  rcases twelve hk with rfl | rfl | rfl | rfl | rfl | rfl | rfl | rfl | rfl | rfl | rfl | rfl <;> rfl

/-- The first i links fixed. -/
def unF (T : Nat → Bool) (i : Nat) (F : Bfn) : Bfn := fun a => F fun v => if v < i then T v else a v
theorem unF_zero (T : Nat → Bool) (F : Bfn) : unF T 0 F = F := by
  funext a; unfold unF; congr 1
theorem unF_succ (T : Nat → Bool) (i : Nat) (F : Bfn) (a : Nat → Bool) : unF T i F (Mgr.upd a i (T i)) = unF T (i + 1) F a := by
  unfold unF; congr 1; funext v
  by_cases h : v < i
  · rw [if_pos h, if_pos (by omega)]
  · rw [if_neg h]
    by_cases e : v = i
    · subst e; rw [Mgr.upd_same, if_pos (by omega)]
    · rw [Mgr.upd_other _ _ _ _ e, if_neg (by omega)]

def UnO (w0 : World) (p : Nat) (L0 : Lay) (c s : Nat) (B : List (Int × Bfn)) (T : Nat → Bool) (F : Bfn) (gk : Nat) (s1 s19 : Value) (wr : World) : Prop :=
  ∃ i f M L, i + gk = 12 ∧ s19 = .int .i64 (i : Int) ∧ s1 = .int .i64 f ∧ Hf w0 p L0 220 (c + i * (220 * s)) wr M L ((f, unF T i F) :: B)

set_option maxRecDepth 100000 in
set_option maxHeartbeats 4000000 in
theorem Under_bad (l : List Int) (hl : l.length ≤ 1000000) (hok : okL l = false) (p : Nat) (f : Int) {dv : Value} {w : World} (hd : SrcAt w dv 1 l.length (l.map intV)) :
    Calls Tryd.prog 56 #[ptr p, .int .i64 f, dv] w fun e w' => e = .returned (.int .i64 (-1)) ∧ Kp No w w' := by
  have MK := Lib.hid (marks_ok l hl hd)
  rw [hok] at MK
  obtain ⟨ao, cp, rfl, _⟩ := hd
  clear hok hl
  go_enter Tryd.func56, Tryd.ntmps56
  go_wp2_with fail
  refine MK.out.mono ?_
  rintro e w1 ⟨rfl, k1⟩
  have K1 := Lib.hid k1
  have BX : Hid ((w1.alloc (.cells #[.bool false, .bool false, .bool false, .bool false, .bool false, .bool false, .bool false, .bool false, .bool false, .bool false, .bool false, .bool false] 114)).heap[w1.heap.size]? = some (.cells #[.bool false, .bool false, .bool false, .bool false, .bool false, .bool false, .bool false, .bool false, .bool false, .bool false, .bool false, .bool false] 114 (0, 0))) := Lib.hid (heap_alloc_new _ _)
  have KA : Hid (Kp No w1 (w1.alloc (.cells #[.bool false, .bool false, .bool false, .bool false, .bool false, .bool false, .bool false, .bool false, .bool false, .bool false, .bool false, .bool false] 114))) := Lib.hid (Kp.alloc _)
  clear k1 MK
  simp only [Bool.false_eq_true, if_false]
  go_wp2_with (refine wpList_store_arr rfl _ _ _ rfl w1.heap.size (arr12 (fun _ => false)) ?_ ?_ 114 _ BX.out ?_ ?_ (arr12_one _) ?_; rfl; rfl; kernel_rfl; rfl; intro w2 hw2 kw2)
  have K2 : Hid (Kp No w w2) := Lib.hid (K1.out.trans_no (KA.out.trans (A' := fun b => b = w1.heap.size) (fun b e => .inr (by omega)) kw2))
  clear hw2 kw2
  go_ret
  exact ⟨rfl, K2.out⟩

set_option maxRecDepth 100000 in
set_option maxHeartbeats 4000000 in
theorem Under_ok {p c s : Nat} {M : Mgr} {L : Lay} {B : List (Int × Bfn)} (f : Int) (F : Bfn) (hf : (f, F) ∈ B) (l : List Int) (hl : l.length ≤ 1000000) (hok : okL l = true) (hs : ∀ i, i ≤ 12 → PSt 220 (unF (dnF l) i F) s) {dv : Value} {w : World} (R : Rep w p M L) (q : Qk 220 c M B) (g : Gl w) (ho : ¬ L.at p 0) (hd : SrcAt w dv 1 l.length (l.map intV)) (hc : c + 12 * (220 * s) ≤ 1000000000000) :
    Calls Tryd.prog 56 #[ptr p, .int .i64 f, dv] w (OpQ p 220 (c + 12 * (220 * s)) L w (unF (dnF l) 12 F) B) := by
  have MK := Lib.hid (marks_ok l hl hd)
  rw [hok] at MK
  have H0 := Lib.hid (Hf.start R q g ho)
  obtain ⟨ao, cp, rfl, _⟩ := hd
  obtain ⟨T, hT⟩ : ∃ T, dnF l = T := ⟨_, rfl⟩
  simp only [if_true] at MK
  rw [hT] at MK hs ⊢
  have IXH := Lib.hid (fun (k : Nat) (hk : k < 12) (w : World) => index_arr12 T hk w)
  clear hok hl hT R q g ho
  go_enter Tryd.func56, Tryd.ntmps56
  go_wp2_with fail
  refine MK.out.mono ?_
  rintro e w1 ⟨rfl, k1⟩
  have K1 := Lib.hid k1
  have BX : Hid ((w1.alloc (.cells #[.bool false, .bool false, .bool false, .bool false, .bool false, .bool false, .bool false, .bool false, .bool false, .bool false, .bool false, .bool false] 114)).heap[w1.heap.size]? = some (.cells #[.bool false, .bool false, .bool false, .bool false, .bool false, .bool false, .bool false, .bool false, .bool false, .bool false, .bool false, .bool false] 114 (0, 0))) := Lib.hid (heap_alloc_new _ _)
  have KA : Hid (Kp No w1 (w1.alloc (.cells #[.bool false, .bool false, .bool false, .bool false, .bool false, .bool false, .bool false, .bool false, .bool false, .bool false, .bool false, .bool false] 114))) := Lib.hid (Kp.alloc _)
  clear k1 MK
  go_wp2_with (first | (refine wpList_store_arr rfl _ _ _ rfl w1.heap.size (arr12 T) ?_ ?_ 114 _ BX.out ?_ ?_ (arr12_one _) ?_; rfl; rfl; kernel_rfl; rfl; intro w2 hw2 kw2) | (refine wpList_load_row rfl 114 _ rfl w1.heap.size ?_ 114 (arr12 T) (0, 0) _ hw2 Tryd.underlying114 ?_ ?_ ?_; rfl; rfl; kernel_rfl))
  have k2 : Kp No w w2 := K1.out.trans_no (KA.out.trans (A' := fun b => b = w1.heap.size) (fun b e => .inr (by omega)) kw2)
  have K2 := Lib.hid k2
  have J0 : Hid (UnO w2 p L c s B T F 12 (.int .i64 f) (.int .i64 0) w2) := Lib.hid (by
    refine ⟨0, f, M, L, by omega, rfl, rfl, ?_⟩
    rw [unF_zero, Nat.zero_mul, Nat.add_zero]
    exact (H0.out.no k2).rebase.sub (fun x hx => by
      rcases List.mem_cons.1 hx with rfl | hx
      · exact hf
      · exact hx))
  have VF := Lib.hid (fun (k : Nat) (hk : k < 12) (y : World) => Failure_ok (k : Int) y)
  have ST := Lib.hid hs
  have CC := Lib.hid hc
  clear hw2 kw2 k2 H0 K1 BX KA hc hs hf
  generalize w1.heap.size = b at *
  go_loopg [1, 19] 12 (fun gk s1 s19 wr => UnO w2 p L c s B T F gk s1 s19 wr)
  case atStart => exact J0.out
  case round =>
    clear J0
    obtain ⟨k, f, M1, L1, hk, rfl, rfl, h⟩ := hrel
    by_cases hlt : k < 12
    · have hk0 : (0 : Int) ≤ (k : Int) := by omega
      have hk12 : (k : Int) < 12 := by omega
      have ix := IXH.out k hlt
      have FK := Lib.hid (VF.out k hlt wr)
      rw [if_pos (by omega)] at FK
      have HK := Lib.hid hk
      have EC : Hid (c + k * (220 * s) + 220 * s = c + (k + 1) * (220 * s) ∧ c + k * (220 * s) + 220 * s ≤ 1000000000000) := Lib.hid (by
        have e : (k + 1) * (220 * s) = k * (220 * s) + 220 * s := by rw [Nat.add_mul, Nat.one_mul]
        have e2 : (k + 1) * (220 * s) ≤ 12 * (220 * s) := Nat.mul_le_mul_right _ (by omega)
        have := CC.out
        omega)
      have RS := Lib.hid (RestrictQ h.rep h.qk (.head _) (v := k) (by omega) (T k) (s := s) ((ST.out (k + 1) (by omega)).congr (fun a => unF_succ T k F a)) EC.out.2)
      have H1 := Lib.hid h
      clear h hk
      generalize hT : T k = tk at *
      go_wp2_with fail
      refine FK.out.mono ?_
      rintro e w' ⟨rfl, rfl⟩
      clear FK
      go_wp2_with fail
      refine RS.out.mono ?_
      intro e w3 h3
      obtain ⟨r, M2, L2, rfl, hr0, f3⟩ := H1.out.step h3
      have JN : Hid (UnO w2 p L c s B T F (12 - (k + 1)) (.int .i64 r) (.int .i64 ((k + 1 : Nat) : Int)) w3) := Lib.hid (by
        refine ⟨k + 1, r, M2, L2, by omega, rfl, rfl, ?_⟩
        rw [← EC.out.1]
        refine (f3.cong (G := unF T (k + 1) F) (fun a => by rw [← hT]; exact unF_succ T k F a)).sub (fun z hz => ?_)
        rcases List.mem_cons.1 hz with rfl | hz
        · exact .head _
        · exact .tail _ (.tail _ hz))
      clear h3 f3 H1 RS
      go_wp2_with fail
      go_roundg (12 - (k + 1))
      case measure => have := HK.out; omega
      case rel => exact JN.out
    · obtain rfl : k = 12 := by omega
      have FIN : Hid (OpQ p 220 (c + 12 * (220 * s)) L w (unF T 12 F) B (.returned (.int .i64 f)) wr) := Lib.hid (OpQ.before K2.out (h.ret (.head _) (fun x hx => .tail _ hx) (Nat.le_refl _)))
      clear h hk hlt
      go_wp2_with fail
      go_ret
      exact FIN.out

end Go.Proofs.YtgglkldoclejaaaDoor

namespace Go.Proofs.YtgglkldoclejaaaDoor
open Go.RowKit

theorem okL_take (l : List Int) {i : Nat} (hi : i < l.length) : okL (l.take (i + 1)) = (okL (l.take i) && decide (0 ≤ l.getD i 0 ∧ l.getD i 0 < 12)) := by
  have e : l.take (i + 1) = l.take i ++ [l.getD i 0] := by rw [List.take_succ_eq_append_getElem hi]; simp [hi]
  unfold okL
  rw [e, List.all_append]; simp
def FrR (w : World) (l : List Int) (gk : Nat) (s3 s4 : Value) (wr : World) : Prop :=
  ∃ i, i + gk = l.length ∧ s4 = .int .i64 (i : Int) ∧ s3 = .bool (okL (l.take i)) ∧ wr = w

set_option maxRecDepth 100000 in
set_option maxHeartbeats 8000000 in
theorem FailureRefuses_walk (l : List Int) {dv : Value} {w : World} (hd : SrcAt w dv 1 l.length (l.map intV)) (hmx : l.length ≤ maxLen) (g : Gl w) :
    Calls Tryd.prog 14 #[dv] w fun e w' => e = .returned (.bool true) ∧ Kp No w w' := by
  obtain ⟨i0, hi0, hz0, hz1, hz2⟩ := info_parts info_int
  have GLW := Lib.hid g
  have AW := Lib.hid (fawake_ok g)
  have SRC := Lib.hid hd
  obtain ⟨ao, cp, rfl, _⟩ := hd
  have hm := maxLen_val
  have hle : (l.length : Int) ≤ 9223372036854775807 := by omega
  clear g
  by_cases h30 : 30 < l.length
  · have h30i : (30 : Int) < (l.length : Int) := by omega
    go_enter Tryd.func14, Tryd.ntmps14
    go_wp2_with fail
    refine AW.out.mono ?_
    rintro e w1 ⟨rfl, k1⟩
    have K1 := Lib.hid k1
    clear k1 AW
    go_wp2_with fail
    go_ret
    exact ⟨rfl, K1.out⟩
  have h30i : ¬ (30 : Int) < (l.length : Int) := by omega
  obtain ⟨ok, hok⟩ : ∃ b, okL l = b := ⟨_, rfl⟩
  have OKL := Lib.hid hok
  have HONE : Hid (∀ u ∈ l.map intV, u.oneCell' = true) := Lib.hid (fun u hu => by obtain ⟨b, _, rfl⟩ := List.mem_map.1 hu; rfl)
  clear hok hmx hm hle
  go_enter Tryd.func14, Tryd.ntmps14
  go_wp2_with fail
  refine AW.out.mono ?_
  rintro e w1 ⟨rfl, k1⟩
  have G1 := Lib.hid (GLW.out.no k1)
  have K1 := Lib.hid k1
  have NEW := Lib.hid (HNew_ok w1)
  have S1 := Lib.hid (SRC.out.no k1)
  have J0 : Hid (FrR w1 l l.length (.bool true) (.int .i64 0) w1) := Lib.hid ⟨0, by omega, rfl, rfl, rfl⟩
  clear k1 AW
  go_wp2_with fail
  go_loopg [3, 4] l.length (fun gk s3 s4 x => FrR w1 l gk s3 s4 x)
  case atStart => exact J0.out
  case round =>
    clear J0
    obtain ⟨i, hi, rfl, rfl, hw⟩ := hrel
    subst hw
    by_cases hlt : i < l.length
    · obtain ⟨g1, o1, c1, hv1, _, hcell⟩ := S1.out.cellAt (by omega)
      have hv2 : ao = some ⟨g1, o1, none⟩ := by injection hv1
      subst hv2
      have hc := hcell i (intV (l.getD i 0)) (by simp [hlt])
      unfold intV at hc
      have hlti : (i : Int) < l.length := by omega
      have SN := Lib.hid (okL_take l hlt)
      have HI := Lib.hid hi
      clear hcell hv1 hi
      generalize okL (l.take i) = ba at *
      cases ba
      · have JN : Hid (FrR wr l (l.length - (i + 1)) (.bool false) (.int .i64 ((i + 1 : Nat) : Int)) wr) := Lib.hid ⟨i + 1, by omega, rfl, by rw [SN.out]; rfl, rfl⟩
        clear SN
        generalize l.getD i 0 = x at *
        go_wp2_with fail
        go_roundg (l.length - (i + 1))
        case measure => have := HI.out; omega
        case rel => exact JN.out
      · by_cases h0 : 0 ≤ l.getD i 0
        · by_cases h1 : l.getD i 0 < 12
          · have JN : Hid (FrR wr l (l.length - (i + 1)) (.bool true) (.int .i64 ((i + 1 : Nat) : Int)) wr) := Lib.hid ⟨i + 1, by omega, rfl, by rw [SN.out, decide_eq_true ⟨h0, h1⟩]; rfl, rfl⟩
            clear SN
            generalize l.getD i 0 = x at *
            have hd1 : decide (x < 12) = true := decide_eq_true h1
            go_wp2_with fail
            go_roundg (l.length - (i + 1))
            case measure => have := HI.out; omega
            case rel => exact JN.out
          · have JN : Hid (FrR wr l (l.length - (i + 1)) (.bool false) (.int .i64 ((i + 1 : Nat) : Int)) wr) := Lib.hid ⟨i + 1, by omega, rfl, by rw [SN.out, decide_eq_false (fun h => h1 h.2)]; rfl, rfl⟩
            clear SN
            generalize l.getD i 0 = x at *
            have hd1 : decide (x < 12) = false := decide_eq_false h1
            go_wp2_with fail
            go_roundg (l.length - (i + 1))
            case measure => have := HI.out; omega
            case rel => first | exact JN.out | (rw [← hd1] at JN; exact JN.out)
        · have JN : Hid (FrR wr l (l.length - (i + 1)) (.bool false) (.int .i64 ((i + 1 : Nat) : Int)) wr) := Lib.hid ⟨i + 1, by omega, rfl, by rw [SN.out, decide_eq_false (fun h => h0 h.1)]; rfl, rfl⟩
          clear SN
          generalize l.getD i 0 = x at *
          go_wp2_with fail
          go_roundg (l.length - (i + 1))
          case measure => have := HI.out; omega
          case rel => exact JN.out
    · obtain rfl : i = l.length := by omega
      rw [List.take_length, OKL.out]
      have hge : ¬ (l.length : Int) < l.length := by omega
      clear hi hlt
      go_wp2_with fail
      refine NEW.out.mono ?_
      rintro e w2 ⟨pm, L2, rfl, R2, k2, o2⟩
      have H2 := Lib.hid (hf_new G1.out (Kp.refl No wr) R2 k2 o2)
      have K2 := Lib.hid (K1.out.trans_no k2)
      have O2 : Hid (∀ x, L2.at pm x → w.heap.size ≤ x) := Lib.hid (fun x hx => by have := o2 x hx; have := K1.out.size; omega)
      have S2 := Lib.hid (SRC.out.no K2.out)
      clear R2 k2 o2 NEW S1 G1 GLW
      cases ok
      · go_wp2_with (at_builtin; refine wpList_append_srcH rfl _ _ rfl (base := w2.heap.size) (v := .slice none 0 0) Tryd.underlying26 hi0 hz0 hz1 hz2 rfl (by omega) rfl (World.ownsRow_nil _ _ _ _) rfl S2.out HONE.out (by unfold maxLen; omega) (by omega) (Nat.le_refl _) ?_; intro v3 w3 hown3 hgrow3 hat3)
        have ku3 : Kp No w2 w3 := (Kp.grown hgrow3).mono (fun x _ h => by simp [Value.ownBlock] at h)
        have row3 : w3.ownsRow w2.heap.size 3 1 v3 l.length (l.map intV) := (by simpa using hown3)
        obtain ⟨a3, c3, rfl⟩ := row_form row3
        have KU3 := Lib.hid ku3
        have RW3 := Lib.hid (SrcAt.of_row row3)
        clear hown3 hgrow3 hat3 ku3 row3
        have EX := Lib.hid (Exactly_bad l (by omega) OKL.out pm RW3.out)
        refine EX.out.mono ?_
        rintro e w4 ⟨rfl, k4⟩
        have K4 := Lib.hid ((K2.out.trans_no KU3.out).trans_no k4)
        have S4 := Lib.hid (SRC.out.no K4.out)
        clear k4 EX RW3
        go_wp2_with (at_builtin; refine wpList_append_srcH rfl _ _ rfl (base := w4.heap.size) (v := .slice none 0 0) Tryd.underlying26 hi0 hz0 hz1 hz2 rfl (by omega) rfl (World.ownsRow_nil _ _ _ _) rfl S4.out HONE.out (by unfold maxLen; omega) (by omega) (Nat.le_refl _) ?_; intro v5 w5 hown5 hgrow5 hat5)
        have ku5 : Kp No w4 w5 := (Kp.grown hgrow5).mono (fun x _ h => by simp [Value.ownBlock] at h)
        have row5 : w5.ownsRow w4.heap.size 3 1 v5 l.length (l.map intV) := (by simpa using hown5)
        obtain ⟨a5, c5, rfl⟩ := row_form row5
        have KU5 := Lib.hid ku5
        have RW5 := Lib.hid (SrcAt.of_row row5)
        clear hown5 hgrow5 hat5 ku5 row5
        have UN := Lib.hid (Under_bad l (by omega) OKL.out pm 1 RW5.out)
        refine UN.out.mono ?_
        rintro e w6 ⟨rfl, k6⟩
        have K6 := Lib.hid ((K4.out.trans_no KU5.out).trans_no k6)
        have S6 := Lib.hid (SRC.out.no K6.out)
        clear k6 UN RW5
        go_wp2_with (at_builtin; refine wpList_append_srcH rfl _ _ rfl (base := w6.heap.size) (v := .slice none 0 0) Tryd.underlying26 hi0 hz0 hz1 hz2 rfl (by omega) rfl (World.ownsRow_nil _ _ _ _) rfl S6.out HONE.out (by unfold maxLen; omega) (by omega) (Nat.le_refl _) ?_; intro v7 w7 hown7 hgrow7 hat7)
        have ku7 : Kp No w6 w7 := (Kp.grown hgrow7).mono (fun x _ h => by simp [Value.ownBlock] at h)
        have row7 : w7.ownsRow w6.heap.size 3 1 v7 l.length (l.map intV) := (by simpa using hown7)
        obtain ⟨a7, c7, rfl⟩ := row_form row7
        have KU7 := Lib.hid ku7
        have RW7 := Lib.hid (SrcAt.of_row row7)
        clear hown7 hgrow7 hat7 ku7 row7
        have UN := Lib.hid (Under_bad l (by omega) OKL.out pm 1 RW7.out)
        refine UN.out.mono ?_
        rintro e w8 ⟨rfl, k8⟩
        have K8 := Lib.hid ((K6.out.trans_no KU7.out).trans_no k8)
        clear k8 UN RW7
        go_wp2_with fail
        go_ret
        exact ⟨rfl, K8.out⟩
      · go_wp2_with (at_builtin; refine wpList_append_srcH rfl _ _ rfl (base := w2.heap.size) (v := .slice none 0 0) Tryd.underlying26 hi0 hz0 hz1 hz2 rfl (by omega) rfl (World.ownsRow_nil _ _ _ _) rfl S2.out HONE.out (by unfold maxLen; omega) (by omega) (Nat.le_refl _) ?_; intro v3 w3 hown3 hgrow3 hat3)
        have ku3 : Kp No w2 w3 := (Kp.grown hgrow3).mono (fun x _ h => by simp [Value.ownBlock] at h)
        have row3 : w3.ownsRow w2.heap.size 3 1 v3 l.length (l.map intV) := (by simpa using hown3)
        obtain ⟨a3, c3, rfl⟩ := row_form row3
        have KU3 := Lib.hid ku3
        have RW3 := Lib.hid (SrcAt.of_row row3)
        clear hown3 hgrow3 hat3 ku3 row3
        have HR3 := Lib.hid (H2.out.no KU3.out).rebase
        have HS3 := Lib.hid (H2.out.no KU3.out)
        have EX := Lib.hid (Exactly_ok l (by omega) OKL.out HR3.out.rep HR3.out.qk HR3.out.gl HR3.out.off RW3.out (by omega))
        refine EX.out.mono ?_
        intro e w4 h4
        obtain ⟨r4, M4, L4, rfl, hr4, f4⟩ := HS3.out.step h4
        have hne4 : (r4 != -1) = true := by simp; omega
        have H4 := Lib.hid f4
        have K4 := Lib.hid (f4.kpNo K2.out O2.out)
        have S4 := Lib.hid (SRC.out.no K4.out)
        clear h4 f4 EX RW3 HR3 HS3 H2
        go_wp2_with (at_builtin; refine wpList_append_srcH rfl _ _ rfl (base := w4.heap.size) (v := .slice none 0 0) Tryd.underlying26 hi0 hz0 hz1 hz2 rfl (by omega) rfl (World.ownsRow_nil _ _ _ _) rfl S4.out HONE.out (by unfold maxLen; omega) (by omega) (Nat.le_refl _) ?_; intro v5 w5 hown5 hgrow5 hat5)
        have ku5 : Kp No w4 w5 := (Kp.grown hgrow5).mono (fun x _ h => by simp [Value.ownBlock] at h)
        have row5 : w5.ownsRow w4.heap.size 3 1 v5 l.length (l.map intV) := (by simpa using hown5)
        obtain ⟨a5, c5, rfl⟩ := row_form row5
        have KU5 := Lib.hid ku5
        have RW5 := Lib.hid (SrcAt.of_row row5)
        clear hown5 hgrow5 hat5 ku5 row5
        have HR5 := Lib.hid (H4.out.no KU5.out).rebase.consts
        have HS5 := Lib.hid (H4.out.no KU5.out).consts
        have UN := Lib.hid (Under_ok 1 (fun _ => true) (.tail _ (.head _)) l (by omega) OKL.out (s := 1) (fun _ _ => PSt.const 220 true) HR5.out.rep HR5.out.qk HR5.out.gl HR5.out.off RW5.out (by omega))
        refine UN.out.mono ?_
        intro e w6 h6
        obtain ⟨r6, M6, L6, rfl, _, f6⟩ := HS5.out.step h6
        have e6 : r6 = 1 := f6.qk.eq (.head _) (.tail _ (.tail _ (.head _))) (fun a => rfl)
        subst e6
        have H6 := Lib.hid f6
        have K6 := Lib.hid (f6.kpNo K2.out O2.out)
        have S6 := Lib.hid (SRC.out.no K6.out)
        clear h6 f6 UN RW5 HR5 HS5
        go_wp2_with (at_builtin; refine wpList_append_srcH rfl _ _ rfl (base := w6.heap.size) (v := .slice none 0 0) Tryd.underlying26 hi0 hz0 hz1 hz2 rfl (by omega) rfl (World.ownsRow_nil _ _ _ _) rfl S6.out HONE.out (by unfold maxLen; omega) (by omega) (Nat.le_refl _) ?_; intro v7 w7 hown7 hgrow7 hat7)
        have ku7 : Kp No w6 w7 := (Kp.grown hgrow7).mono (fun x _ h => by simp [Value.ownBlock] at h)
        have row7 : w7.ownsRow w6.heap.size 3 1 v7 l.length (l.map intV) := (by simpa using hown7)
        obtain ⟨a7, c7, rfl⟩ := row_form row7
        have KU7 := Lib.hid ku7
        have RW7 := Lib.hid (SrcAt.of_row row7)
        clear hown7 hgrow7 hat7 ku7 row7
        have HR7 := Lib.hid (H6.out.no KU7.out).rebase.consts
        have HS7 := Lib.hid (H6.out.no KU7.out).consts
        have UN := Lib.hid (Under_ok 1 (fun _ => true) (.tail _ (.head _)) l (by omega) OKL.out (s := 1) (fun _ _ => PSt.const 220 true) HR7.out.rep HR7.out.qk HR7.out.gl HR7.out.off RW7.out (by omega))
        refine UN.out.mono ?_
        intro e w8 h8
        obtain ⟨r8, M8, L8, rfl, _, f8⟩ := HS7.out.step h8
        have e8 : r8 = 1 := f8.qk.eq (.head _) (.tail _ (.tail _ (.head _))) (fun a => rfl)
        subst e8
        have H8 := Lib.hid f8
        have K8 := Lib.hid (f8.kpNo K2.out O2.out)
        have S8 := Lib.hid (SRC.out.no K8.out)
        clear h8 f8 UN RW7 HR7 HS7
        go_wp2_with fail
        go_ret
        exact ⟨rfl, K8.out⟩

end Go.Proofs.YtgglkldoclejaaaDoor
