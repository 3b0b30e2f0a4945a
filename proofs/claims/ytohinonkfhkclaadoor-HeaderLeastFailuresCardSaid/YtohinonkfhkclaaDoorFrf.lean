/-
  Walks: the law FailureRefuses.
-/
import Derived.Test.YtohinonkfhkclaaDoorFp
import Derived.Deep.CutBlock
namespace Go.Proofs.YtohinonkfhkclaaDoor
open Go.RowKit

/-- 'append' of a whole list, behind a guard that says yes. -/
theorem wpList_append_srcH {P : Program} {w : World} {ops : Array Oper} {rest : List Oper} {o : Oper} {a : Act} {Q : Exit → Act → World → Prop} (hgd : Region.wanted o (yielded ops a.tmps) = true) (s x : Operand) {t : TypeId}
    (ho : o.op = .call { callee := .builtin .append, args := #[s, x], argTypes := #[t, t] })
    {base : Nat} {e : TypeId} {i : TypeInfo} {z : Value} {size bytes : Nat} (ht : P.underlying t = some (.slice e)) (hi : P.info? e = some i) (hz : i.zero = some z)
    (hsize : i.size = size) (hby : i.bytes = bytes) (hzs : z.cells.size = size) (hsz : 0 < size) {v u : Value} {n m : Nat} {xs news : List Value} (hs : a.eval s = v) (hown : w.ownsRow base e size v n xs) (hx : a.eval x = u) (hsrc : SrcAt w u size m news)
    (h1 : ∀ x ∈ news, x.oneCell' = true) (h63 : n + m ≤ maxLen) (hbytes : (n + m) * bytes ≤ 140737488355328) (hbase : base ≤ w.heap.size)
    (h : ∀ v' w', w'.ownsRow base e size v' (n + m) (xs ++ news) → w.grownBy w' v.ownBlock → (v'.ownBlock = v.ownBlock ∨ v'.ownBlock = some w.heap.size) → wpList P ops Q rest (a.put o.dst v') w') : wpList P ops Q (o :: rest) a w :=
  BigFrame.wpList_want hgd fun _ hK => wp_append_src ho ht hi hz hsize hby hzs hsz hs hown hx hsrc h1 h63 hbytes hbase fun v' w' h2 h3 h4 => hK _ _ (h v' w' h2 h3 h4)

set_option maxRecDepth 100000 in
theorem index_arr12 (x : Nat → Bool) {k : Nat} (hk : k < 12) (w : World) : (Instr.index 81 (.agg (arr12 x)) (.int .i64 (k : Int))).run Tryd.prog w = .ok (.bool (x k)) w := by
  rcases twelve hk with rfl | rfl | rfl | rfl | rfl | rfl | rfl | rfl | rfl | rfl | rfl | rfl <;> rfl

/-- The first i links fixed. -/
def unF (T : Nat → Bool) (i : Nat) (F : Bfn) : Bfn := fun a => F fun v => if v < i then T v else a v
theorem unF_zero (T : Nat → Bool) (F : Bfn) : unF T 0 F = F := by
  funext a; unfold unF; congr 1
theorem unF_succ (T : Nat → Bool) (i : Nat) (F : Bfn) (a : Nat → Bool) : unF T i F (Mgr.upd a i (T i)) = unF T (i + 1) F a := by
  unfold unF; congr 1; funext v
  by_cases h : v < i
  · rw [if_pos h, if_pos (by omega)]
  · rw [if_neg h]
    by_cases e : v = i
    · subst e; rw [Mgr.upd_same, if_pos (by omega)]
    · rw [Mgr.upd_other _ _ _ _ e, if_neg (by omega)]

def UnO (w0 : World) (p : Nat) (L0 : Lay) (c s : Nat) (B : List (Int × Bfn)) (T : Nat → Bool) (F : Bfn) (gk : Nat) (s1 s19 : Value) (wr : World) : Prop :=
  ∃ i f M L, i + gk = 12 ∧ s19 = .int .i64 (i : Int) ∧ s1 = .int .i64 f ∧ Hf w0 p L0 220 (c + i * (220 * s)) wr M L ((f, unF T i F) :: B)

set_option maxRecDepth 100000 in
set_option maxHeartbeats 4000000 in
theorem Under_bad (l : List Int) (hl : l.length ≤ 1000000) (hok : okL l = false) (p : Nat) (f : Int) {dv : Value} {w : World} (hd : SrcAt w dv 1 l.length (l.map intV)) :
    Calls Tryd.prog 30 #[ptr p, .int .i64 f, dv] w fun e w' => e = .returned (.int .i64 (-1)) ∧ Kp No w w' := by
  have MK := Lib.hid (marks_ok l hl hd)
  rw [hok] at MK
  obtain ⟨ao, cp, rfl, _⟩ := hd
  clear hok hl
  go_enter Tryd.func30, Tryd.ntmps30
  go_wp2_with fail
  refine MK.out.mono ?_
  rintro e w1 ⟨rfl, k1⟩
  have K1 := Lib.hid k1
  have BX : Hid ((w1.alloc (.cells #[.bool false, .bool false, .bool false, .bool false, .bool false, .bool false, .bool false, .bool false, .bool false, .bool false, .bool false, .bool false] 81)).heap[w1.heap.size]? = some (.cells #[.bool false, .bool false, .bool false, .bool false, .bool false, .bool false, .bool false, .bool false, .bool false, .bool false, .bool false, .bool false] 81 (0, 0))) := Lib.hid (heap_alloc_new _ _)
  have KA : Hid (Kp No w1 (w1.alloc (.cells #[.bool false, .bool false, .bool false, .bool false, .bool false, .bool false, .bool false, .bool false, .bool false, .bool false, .bool false, .bool false] 81))) := Lib.hid (Kp.alloc _)
  clear k1 MK
  simp only [Bool.false_eq_true, if_false]
  go_wp2_with (refine wpList_store_arr rfl _ _ _ rfl w1.heap.size (arr12 (fun _ => false)) ?_ ?_ 81 _ BX.out ?_ ?_ (arr12_one _) ?_; rfl; rfl; kernel_rfl; rfl; intro w2 hw2 kw2)
  have K2 : Hid (Kp No w w2) := Lib.hid (K1.out.trans_no (KA.out.trans (A' := fun b => b = w1.heap.size) (fun b e => .inr (by omega)) kw2))
  clear hw2 kw2
  go_ret
  exact ⟨rfl, K2.out⟩

set_option maxRecDepth 100000 in
set_option maxHeartbeats 4000000 in
theorem Under_ok {p c s : Nat} {M : Mgr} {L : Lay} {B : List (Int × Bfn)} (f : Int) (F : Bfn) (hf : (f, F) ∈ B) (l : List Int) (hl : l.length ≤ 1000000) (hok : okL l = true) (hs : ∀ i, i ≤ 12 → PSt 220 (unF (dnF l) i F) s) {dv : Value} {w : World} (R : Rep w p M L) (q : Qk 220 c M B) (g : Gl w) (ho : ¬ L.at p 0) (hd : SrcAt w dv 1 l.length (l.map intV)) (hc : c + 12 * (220 * s) ≤ 1000000000000) :
    Calls Tryd.prog 30 #[ptr p, .int .i64 f, dv] w (OpQ p 220 (c + 12 * (220 * s)) L w (unF (dnF l) 12 F) B) := by
  have MK := Lib.hid (marks_ok l hl hd)
  rw [hok] at MK
  have H0 := Lib.hid (Hf.start R q g ho)
  obtain ⟨ao, cp, rfl, _⟩ := hd
  obtain ⟨T, hT⟩ : ∃ T, dnF l = T := ⟨_, rfl⟩
  simp only [if_true] at MK
  rw [hT] at MK hs ⊢
  have IXH := Lib.hid (fun (k : Nat) (hk : k < 12) (w : World) => index_arr12 T hk w)
  clear hok hl hT R q g ho
  go_enter Tryd.func30, Tryd.ntmps30
  go_wp2_with fail
  refine MK.out.mono ?_
  rintro e w1 ⟨rfl, k1⟩
  have K1 := Lib.hid k1
  have BX : Hid ((w1.alloc (.cells #[.bool false, .bool false, .bool false, .bool false, .bool false, .bool false, .bool false, .bool false, .bool false, .bool false, .bool false, .bool false] 81)).heap[w1.heap.size]? = some (.cells #[.bool false, .bool false, .bool false, .bool false, .bool false, .bool false, .bool false, .bool false, .bool false, .bool false, .bool false, .bool false] 81 (0, 0))) := Lib.hid (heap_alloc_new _ _)
  have KA : Hid (Kp No w1 (w1.alloc (.cells #[.bool false, .bool false, .bool false, .bool false, .bool false, .bool false, .bool false, .bool false, .bool false, .bool false, .bool false, .bool false] 81))) := Lib.hid (Kp.alloc _)
  clear k1 MK
  go_wp2_with (first | (refine wpList_store_arr rfl _ _ _ rfl w1.heap.size (arr12 T) ?_ ?_ 81 _ BX.out ?_ ?_ (arr12_one _) ?_; rfl; rfl; kernel_rfl; rfl; intro w2 hw2 kw2) | (refine wpList_load_row rfl 81 _ rfl w1.heap.size ?_ 81 (arr12 T) (0, 0) _ hw2 Tryd.underlying81 ?_ ?_ ?_; rfl; rfl; kernel_rfl))
  have k2 : Kp No w w2 := K1.out.trans_no (KA.out.trans (A' := fun b => b = w1.heap.size) (fun b e => .inr (by omega)) kw2)
  have K2 := Lib.hid k2
  have J0 : Hid (UnO w2 p L c s B T F 12 (.int .i64 f) (.int .i64 0) w2) := Lib.hid (by
    refine ⟨0, f, M, L, by omega, rfl, rfl, ?_⟩
    rw [unF_zero, Nat.zero_mul, Nat.add_zero]
    exact (H0.out.no k2).rebase.sub (fun x hx => by
      rcases List.mem_cons.1 hx with rfl | hx
      · exact hf
      · exact hx))
  have VF := Lib.hid (fun (k : Nat) (hk : k < 12) (y : World) => Failure_ok (k : Int) y)
  have ST := Lib.hid hs
  have CC := Lib.hid hc
  clear hw2 kw2 k2 H0 K1 BX KA hc hs hf
  generalize w1.heap.size = b at *
  go_loopg [1, 19] 12 (fun gk s1 s19 wr => UnO w2 p L c s B T F gk s1 s19 wr)
  case atStart => exact J0.out
  case round =>
    clear J0
    obtain ⟨k, f, M1, L1, hk, rfl, rfl, h⟩ := hrel
    by_cases hlt : k < 12
    · have hk0 : (0 : Int) ≤ (k : Int) := by omega
      have hk12 : (k : Int) < 12 := by omega
      have ix := IXH.out k hlt
      have FK := Lib.hid (VF.out k hlt wr)
      rw [if_pos (by omega)] at FK
      have HK := Lib.hid hk
      have EC : Hid (c + k * (220 * s) + 220 * s = c + (k + 1) * (220 * s) ∧ c + k * (220 * s) + 220 * s ≤ 1000000000000) := Lib.hid (by
        have e : (k + 1) * (220 * s) = k * (220 * s) + 220 * s := by rw [Nat.add_mul, Nat.one_mul]
        have e2 : (k + 1) * (220 * s) ≤ 12 * (220 * s) := Nat.mul_le_mul_right _ (by omega)
        have := CC.out
        omega)
      have RS := Lib.hid (RestrictQ h.rep h.qk (.head _) (v := k) (by omega) (T k) (s := s) ((ST.out (k + 1) (by omega)).congr (fun a => unF_succ T k F a)) EC.out.2)
      have H1 := Lib.hid h
      clear h hk
      generalize hT : T k = tk at *
      go_wp2_with fail
      refine FK.out.mono ?_
      rintro e w' ⟨rfl, rfl⟩
      clear FK
      go_wp2_with fail
      refine RS.out.mono ?_
      intro e w3 h3
      obtain ⟨r, M2, L2, rfl, hr0, f3⟩ := H1.out.step h3
      have JN : Hid (UnO w2 p L c s B T F (12 - (k + 1)) (.int .i64 r) (.int .i64 ((k + 1 : Nat) : Int)) w3) := Lib.hid (by
        refine ⟨k + 1, r, M2, L2, by omega, rfl, rfl, ?_⟩
        rw [← EC.out.1]
        refine (f3.cong (G := unF T (k + 1) F) (fun a => by rw [← hT]; exact unF_succ T k F a)).sub (fun z hz => ?_)
        rcases List.mem_cons.1 hz with rfl | hz
        · exact .head _
        · exact .tail _ (.tail _ hz))
      clear h3 f3 H1 RS
      go_wp2_with fail
      go_roundg (12 - (k + 1))
      case measure => have := HK.out; omega
      case rel => exact JN.out
    · obtain rfl : k = 12 := by omega
      have FIN : Hid (OpQ p 220 (c + 12 * (220 * s)) L w (unF T 12 F) B (.returned (.int .i64 f)) wr) := Lib.hid (OpQ.before K2.out (h.ret (.head _) (fun x hx => .tail _ hx) (Nat.le_refl _)))
      clear h hk hlt
      go_wp2_with fail
      go_ret
      exact FIN.out

end Go.Proofs.YtohinonkfhkclaaDoor

namespace Go.Proofs.YtohinonkfhkclaaDoor
open Go.RowKit

theorem okL_take (l : List Int) {i : Nat} (hi : i < l.length) : okL (l.take (i + 1)) = (okL (l.take i) && decide (0 ≤ l.getD i 0 ∧ l.getD i 0 < 12)) := by
  have e : l.take (i + 1) = l.take i ++ [l.getD i 0] := by rw [List.take_succ_eq_append_getElem hi]; simp [hi]
  unfold okL
  rw [e, List.all_append]; simp
def FrR (w : World) (l : List Int) (gk : Nat) (s3 s4 : Value) (wr : World) : Prop :=
  ∃ i, i + gk = l.length ∧ s4 = .int .i64 (i : Int) ∧ s3 = .bool (okL (l.take i)) ∧ wr = w

end Go.Proofs.YtohinonkfhkclaaDoor
