/-
  Walks: 'number', the law QuantImages.
-/
import Derived.Test.YtngbodmooddjbaaQy
import Derived.Test.YtngbodmooddjbaaQu
import Derived.Test.YtngbodmooddjbaaRunJ
import Derived.Deep.CutBlock
namespace Go.Proofs.Ytngbodmooddjbaa
open Go.ChangeShapes Go.WideShapes Go.ChangeAt Go.RowKit Go.Deep

/-! ### lists of bytes and of pairs of bytes -/
theorem and7_fin : ∀ i : Fin 256, bits BinOp.and IntKind.u8 (i.val : Int) 7 = ((i.val % 8 : Nat) : Int) := by decide +kernel
theorem and7 {x : Nat} (h : x < 256) : bits BinOp.and IntKind.u8 (x : Int) 7 = ((x % 8 : Nat) : Int) := and7_fin ⟨x, h⟩
theorem nat_u8 {y : Int} (h : (Lit.int .u8 y).wf = true) : ∃ n : Nat, y = (n : Int) ∧ n < 256 := by
  have hb : 0 ≤ y ∧ y < 256 := by
    simp [Lit.wf, IntKind.min, IntKind.max, IntKind.signed, IntKind.bits] at h
    omega
  exact ⟨y.toNat, by omega, by omega⟩
def U8At (w : World) (v : Value) (l : List Nat) : Prop :=
  ∃ ao c, v = .slice ao l.length c ∧ l.length ≤ maxLen ∧ (∀ x, x ∈ l → x < 256) ∧ (l = [] ∨ ∃ g o, ao = some ⟨g, o, none⟩ ∧ g < w.heap.size ∧ ∀ (i : Nat) (x : Nat), l[i]? = some x → w.cell? ⟨g, o + i, none⟩ = some (.int .u8 (x : Int)))
theorem U8At.no {w w' : World} {v : Value} {l : List Nat} (h : U8At w v l) (k : Kp No w w') : U8At w' v l := by
  obtain ⟨ao, c, hv, hl, hx, h⟩ := h
  refine ⟨ao, c, hv, hl, hx, ?_⟩
  rcases h with h | ⟨g, o, rfl, hg, h⟩
  · exact .inl h
  · exact .inr ⟨g, o, rfl, Nat.lt_of_lt_of_le hg k.size, fun i x hi => by rw [k.cell hg (fun z => z)]; exact h i x hi⟩
set_option maxRecDepth 100000 in
theorem open_u8L {H : Type} {enc : TypeId × Value → H} {w : World} {sp : Nat → Bool} {held : Bool} {r : Reach} {b0 : Nat} {v : Value} {d : DataW H} {ps : List MemPlace}
    (hv : Value.okWide Try.prog w r b0 23 v) (h : DataW.Trod enc Try.prog w 0 sp held 23 v d ps) : ∃ l, U8At w v l ∧ True := by
  obtain ⟨l, ao, c, hv, hl, hc⟩ := open_ones (α := { n : Nat // n < 256 }) (fun y => .int .u8 (y.1 : Int)) Try.underlying23 (by kernel_rfl) (fun n u x hx => by
    obtain ⟨b, hb, _, hw⟩ := DataW.trod_int Try.underlying5 hx
    obtain ⟨m, rfl, hm⟩ := nat_u8 hw
    exact ⟨⟨m, hm⟩, (List.cons.inj hb).1⟩) hv h
  refine ⟨l.map (·.1), ⟨ao, c, by simpa using hv, by simpa using hl, fun x hx => ?_, ?_⟩, trivial⟩
  · obtain ⟨y, _, rfl⟩ := List.mem_map.1 hx
    exact y.2
  · rcases hc with hc | ⟨g, o, rfl, hg, hc⟩
    · exact .inl (by simp [hc])
    · refine .inr ⟨g, o, rfl, hg, fun i y hy => ?_⟩
      rw [List.getElem?_map] at hy
      obtain ⟨z, hz, rfl⟩ := Option.map_eq_some_iff.1 hy
      exact hc i z hz

section
variable {H : Type} {enc : TypeId × Value → H} {P : Program} {w : World} {base : Nat} {spare : Nat → Bool} {held : Bool}
theorem trod_array2 {t e : TypeId} {fuel : Nat} {c0 c1 : Value} {x : DataW H × List MemPlace} (ht : P.underlying t = some (.array 2 e)) (hce : P.cellsOf e = 1)
    (h : DataW.trod enc P w base spare held fuel t [c0, c1] = some x) :
    ∃ y0 y1 n, DataW.trod enc P w base spare held n e [c0] = some y0 ∧ DataW.trod enc P w base spare held n e [c1] = some y1 := by
  cases fuel with
  | zero => simp [DataW.trod] at h
  | succ n =>
    unfold DataW.trod at h
    rw [ht] at h
    have r2 : List.range 2 = [0, 1] := rfl
    simp [r2, hce] at h
    obtain ⟨_, h⟩ := h
    cases h0 : DataW.trod enc P w base spare held n e [c0] with
    | none => simp [h0] at h
    | some y0 =>
      cases h1 : DataW.trod enc P w base spare held n e [c1] with
      | none => simp [h0, h1] at h
      | some y1 => exact ⟨y0, y1, n, h0, h1⟩
end
def U2At (w : World) (v : Value) (l : List (Nat × Nat)) : Prop :=
  ∃ ao c, v = .slice ao l.length c ∧ l.length ≤ maxLen ∧ (∀ x, x ∈ l → x.1 < 256 ∧ x.2 < 256) ∧ (l = [] ∨ ∃ g o, ao = some ⟨g, o, none⟩ ∧ g < w.heap.size ∧ ∀ (i : Nat) (x : Nat × Nat), l[i]? = some x → w.cell? ⟨g, o + i * 2, none⟩ = some (.int .u8 (x.1 : Int)) ∧ w.cell? ⟨g, o + i * 2 + 1, none⟩ = some (.int .u8 (x.2 : Int)))
theorem U2At.no {w w' : World} {v : Value} {l : List (Nat × Nat)} (h : U2At w v l) (k : Kp No w w') : U2At w' v l := by
  obtain ⟨ao, c, hv, hl, hx, h⟩ := h
  refine ⟨ao, c, hv, hl, hx, ?_⟩
  rcases h with h | ⟨g, o, rfl, hg, h⟩
  · exact .inl h
  · refine .inr ⟨g, o, rfl, Nat.lt_of_lt_of_le hg k.size, fun i x hi => ?_⟩
    rw [k.cell (a := ⟨g, o + i * 2, none⟩) hg (fun z => z), k.cell (a := ⟨g, o + i * 2 + 1, none⟩) hg (fun z => z)]
    exact h i x hi
theorem pairs_list {w : World} {a : Addr} : ∀ (len : Nat), (∀ i, i < len → ∃ x y : Nat, x < 256 ∧ y < 256 ∧ w.cell? (a.add (i * 2)) = some (.int .u8 (x : Int)) ∧ w.cell? (a.add (i * 2 + 1)) = some (.int .u8 (y : Int))) →
    ∃ l : List (Nat × Nat), l.length = len ∧ (∀ x, x ∈ l → x.1 < 256 ∧ x.2 < 256) ∧ ∀ i x, l[i]? = some x → w.cell? (a.add (i * 2)) = some (.int .u8 (x.1 : Int)) ∧ w.cell? (a.add (i * 2 + 1)) = some (.int .u8 (x.2 : Int))
  | 0, _ => ⟨[], rfl, fun x hx => (List.not_mem_nil hx).elim, fun i x hx => by simp at hx⟩
  | k + 1, h => by
    obtain ⟨l, h1, h2, h3⟩ := pairs_list k (fun i hi => h i (by omega))
    obtain ⟨x, y, hx, hy, c1, c2⟩ := h k (by omega)
    refine ⟨l ++ [(x, y)], by simp [h1], fun z hz => ?_, fun i z hz => ?_⟩
    · rcases List.mem_append.1 hz with hz | hz
      · exact h2 z hz
      · rw [List.mem_singleton.1 hz]; exact ⟨hx, hy⟩
    · rw [List.getElem?_append] at hz
      split at hz
      · exact h3 i z hz
      · rename_i hh
        have e0 : i - l.length = 0 := by
          rcases Nat.eq_zero_or_pos (i - l.length) with e | e
          · exact e
          · rw [List.getElem?_eq_none (by simp; omega)] at hz; cases hz
        rw [e0] at hz
        simp at hz
        subst hz
        rw [show i = k by omega]
        exact ⟨c1, c2⟩
set_option maxRecDepth 100000 in
theorem open_u8Ps {H : Type} {enc : TypeId × Value → H} {w : World} {sp : Nat → Bool} {held : Bool} {r : Reach} {b0 : Nat} {v : Value} {d : DataW H} {ps : List MemPlace}
    (hv : Value.okWide Try.prog w r b0 22 v) (h : DataW.Trod enc Try.prog w 0 sp held 22 v d ps) : ∃ l, U2At w v l ∧ True := by
  obtain ⟨ao, len, cap, rfl⟩ := okWide_slice Try.underlying22 hv
  obtain ⟨fuel, h⟩ := h
  rcases open_slice Try.underlying22 h with ⟨hcs, _⟩ | ⟨a, len', cap', m, n, D, Pl, hcs, hb, hl, hm, hmm, hx, hi⟩
  · simp [Value.cells] at hcs
    obtain ⟨rfl, rfl, rfl⟩ := hcs
    exact ⟨[], ⟨none, 0, rfl, by simp, fun x hx => (List.not_mem_nil hx).elim, .inl rfl⟩, trivial⟩
  · simp [Value.cells] at hcs
    obtain ⟨rfl, rfl, rfl⟩ := hcs
    have hlm : len ≤ m := by rw [hmm]; split <;> omega
    have hC : Try.prog.cellsOf 31 = 2 := by kernel_rfl
    have each : ∀ i, i < len → ∃ x y : Nat, x < 256 ∧ y < 256 ∧ w.cell? (a.add (i * 2)) = some (.int .u8 (x : Int)) ∧ w.cell? (a.add (i * 2 + 1)) = some (.int .u8 (y : Int)) := fun i hil => by
      obtain ⟨cs', hc, ht⟩ := hi i (by omega)
      rw [hC] at hc
      obtain ⟨_, hcl, hat⟩ := World.cells?_some hc
      match cs', hcl, hat, ht with
      | [c0, c1], _, hat, ht =>
        obtain ⟨y0, y1, n', t0, t1⟩ := trod_array2 Try.underlying31 (by kernel_rfl) ht
        obtain ⟨x0, e0, _, w0⟩ := DataW.trod_int Try.underlying5 t0
        obtain ⟨x1, e1, _, w1⟩ := DataW.trod_int Try.underlying5 t1
        obtain ⟨n0, rfl, l0⟩ := nat_u8 w0
        obtain ⟨n1, rfl, l1⟩ := nat_u8 w1
        have a0 := hat 0 (by omega)
        have a1 := hat 1 (by omega)
        rw [Go.Deep.add_add] at a0 a1
        simp only [List.cons.injEq, and_true] at e0 e1
        refine ⟨n0, n1, l0, l1, ?_, ?_⟩
        · rw [← e0]; exact a0
        · rw [← e1]; exact a1
    obtain ⟨l, hl1, hl2, hl3⟩ := pairs_list len each
    refine ⟨l, ⟨some a, cap, by rw [hl1], by rw [hl1]; exact Nat.le_trans hl hm, hl2, ?_⟩, trivial⟩
    by_cases h0 : l = []
    · exact .inl h0
    · right
      have hp : 0 < l.length := List.length_pos_iff.2 h0
      have c0 := (hl3 0 (l[0]) (by simp)).1
      obtain ⟨g, o, spot⟩ := a
      have hspot : spot = none := by simpa [Addr.add] using World.cell?_spot c0
      subst hspot
      refine ⟨g, o, rfl, by simpa [Addr.add] using World.block_lt_of_cell? _ _ c0, fun i y hy => ?_⟩
      have := hl3 i y hy
      rw [show (Addr.mk g o none).add (i * 2) = ⟨g, o + i * 2, none⟩ from Go.WideShapes.add_plain .., show (Addr.mk g o none).add (i * 2 + 1) = ⟨g, o + (i * 2 + 1), none⟩ from Go.WideShapes.add_plain ..] at this
      exact this

/-! ### 'number' -/
def NmJ (w : World) (p c v x : Nat) (L : Lay) (B : List (Int × Bfn)) (gk : Nat) (s7 s8 : Value) (y : World) : Prop :=
  ∃ k r M' L', k + gk = 3 ∧ s8 = .int .i64 (k : Int) ∧ s7 = .int .i64 r ∧ Sd w p L y M' L' ∧ Qk 6 (c + k * 50331900) M' ((r, numF v x k) :: B)
theorem bit0_fin : ∀ i : Fin 64, ∀ v : Fin 6, (bits BinOp.and IntKind.i64 ((i.val : Int) / 2 ^ v.val) 1 == 0) = !i.val.testBit v.val := by decide +kernel
theorem bit0_at {i v : Nat} (hi : i < 64) (hv : v < 6) : (bits BinOp.and IntKind.i64 ((i : Int) / 2 ^ v) 1 == 0) = !i.testBit v := bit0_fin ⟨i, hi⟩ ⟨v, hv⟩

set_option maxRecDepth 100000 in
set_option maxHeartbeats 4000000 in
theorem number_ok {p c v x : Nat} {M : Mgr} {L : Lay} {B : List (Int × Bfn)} {w : World} (hv : v + 3 ≤ 6) (hx : x < 8) (R : Rep w p M L) (b : Qk 6 c M B) (hc : c ≤ 700000000000) :
    Calls Try.prog 14 #[ptr p, .int .i64 (v : Int), .int .i64 (x : Int)] w (OpQ p 6 (c + 150995700) L w (numF v x 3) B) := by
  have J0 : Hid (NmJ w p c v x L B 3 (.int .i64 1) (.int .i64 0) w) := Lib.hid ⟨0, 1, M, L, by omega, rfl, rfl, Sd.start R, (b.consts.mono (by omega)).sub (fun z hz => by
    rcases List.mem_cons.1 hz with rfl | hz
    · exact .tail _ (.head _)
    · exact .tail _ (.tail _ hz))⟩
  clear R b
  have hxi : (x : Int) < 8 := by omega
  have hvi : (v : Int) ≤ 3 := by omega
  go_enter Try.func14, Try.ntmps14
  go_wp2
  go_loopg [7, 8] 3 (fun gk s7 s8 y => NmJ w p c v x L B gk s7 s8 y)
  case atStart => exact J0.out
  case round =>
    clear J0
    obtain ⟨k, r, M1, L1, hk, rfl, rfl, sd, q⟩ := hrel
    have HK := Lib.hid hk
    have SD := Lib.hid sd
    have Q := Lib.hid q
    by_cases hlt : k < 3
    · have hlti : (k : Int) < 3 := by omega
      have hb := bit0_at (i := x) (v := k) (by omega) (by omega)
      have C1 : Hid (Calls Try.prog 47 #[ptr p, .int .i64 ((v : Int) + (k : Int))] wr (OpQ p 6 (c + k * 50331900 + 16777300) L1 wr (fun a => a (v + k)) ((r, numF v x k) :: B))) := Lib.hid (by
        have := VarS sd.rep q (by omega) (v := v + k) (by omega)
        rw [show ((v + k : Nat) : Int) = (v : Int) + (k : Int) by omega] at this
        exact this)
      have NX : Hid (∀ (y : World) (r2 : Int) (M2 : Mgr) (L2 : Lay) (G : Bfn) (B2 : List (Int × Bfn)), Sd w p L y M2 L2 → Qk 6 (c + (k + 1) * 50331900) M2 ((r2, fun a => numF v x k a && G a) :: B2) → (∀ a, G a = if x.testBit k then a (v + k) else !a (v + k)) → (∀ z, z ∈ B → z ∈ B2) →
          NmJ w p c v x L B (3 - (k + 1)) (.int .i64 r2) (.int .i64 ((k + 1 : Nat) : Int)) y) := Lib.hid (fun y r2 M2 L2 G B2 s q hG hB => ⟨k + 1, r2, M2, L2, by omega, rfl, rfl, s, (q.cong (G := numF v x (k + 1)) (fun a => by simp only [numF]; rw [hG])).sub (fun z hz => by
        rcases List.mem_cons.1 hz with rfl | hz
        · exact .head _
        · exact .tail _ (hB z hz))⟩)
      clear hk sd q
      cases hbit : x.testBit k with
      | true =>
        rw [hbit] at hb
        have HBT := Lib.hid hbit
        clear hbit
        go_wp2_with fail
        refine C1.out.mono ?_
        rintro e y1 ⟨r1, M2, h1, q1, _⟩
        obtain ⟨rfl, L2, s1⟩ := SD.out.step h1
        have S1 := Lib.hid s1
        have C2 := Lib.hid (AndS (by omega) s1.rep q1 (by omega) (.tail _ (.head _)) (.head _))
        clear h1 q1 s1 C1 SD Q
        go_wp2_with fail
        refine C2.out.mono ?_
        rintro e y2 ⟨r2, M3, h2, q2, _⟩
        obtain ⟨rfl, L3, s2⟩ := S1.out.step h2
        have FIN := Lib.hid (NX.out y2 r2 M3 L3 (fun a => a (v + k)) _ s2 (q2.mono (by omega)) (fun a => by rw [HBT.out]; rfl) (fun z hz => .tail _ (.tail _ hz)))
        clear h2 q2 s2 C2 S1 NX
        go_wp2
        go_roundg (3 - (k + 1))
        case measure => have := HK.out; omega
        case rel => exact FIN.out
      | false =>
        rw [hbit] at hb
        have HBT := Lib.hid hbit
        clear hbit
        go_wp2_with fail
        refine C1.out.mono ?_
        rintro e y1 ⟨r1, M2, h1, q1, _⟩
        obtain ⟨rfl, L2, s1⟩ := SD.out.step h1
        have S1 := Lib.hid s1
        have C2 := Lib.hid (NotS (by omega) s1.rep q1 (by omega) (.head _))
        clear h1 q1 s1 C1 SD Q
        go_wp2_with fail
        refine C2.out.mono ?_
        rintro e y2 ⟨r2, M3, h2, q2, _⟩
        obtain ⟨rfl, L3, s2⟩ := S1.out.step h2
        have S2 := Lib.hid s2
        have C3 := Lib.hid (AndS (by omega) s2.rep q2 (by omega) (.tail _ (.tail _ (.head _))) (.head _))
        clear h2 q2 s2 C2 S1
        go_wp2_with fail
        refine C3.out.mono ?_
        rintro e y3 ⟨r3, M4, h3, q3, _⟩
        obtain ⟨rfl, L4, s3⟩ := S2.out.step h3
        have FIN := Lib.hid (NX.out y3 r3 M4 L4 (fun a => !a (v + k)) _ s3 (q3.mono (by omega)) (fun a => by rw [HBT.out]; rfl) (fun z hz => .tail _ (.tail _ (.tail _ hz))))
        clear h3 q3 s3 C3 S2 NX
        go_wp2
        go_roundg (3 - (k + 1))
        case measure => have := HK.out; omega
        case rel => exact FIN.out
    · obtain rfl : k = 3 := by omega
      have FIN : Hid (OpQ p 6 (c + 150995700) L w (numF v x 3) B (.returned (.int .i64 r)) wr) := Lib.hid ⟨r, M1, ⟨L1, rfl, sd.rep, sd.kp, sd.fr⟩, q, q.nonneg (.head _)⟩
      have hge : ¬ ((3 : Nat) : Int) < 3 := by omega
      clear hk sd q SD Q
      go_wp2
      go_ret
      exact FIN.out

/-! ### the law -/
abbrev arr8 (x : Nat → Bool) : Array Value := #[.bool (x 0), .bool (x 1), .bool (x 2), .bool (x 3), .bool (x 4), .bool (x 5), .bool (x 6), .bool (x 7)]
theorem eight {k : Nat} (h : k < 8) : k = 0 ∨ k = 1 ∨ k = 2 ∨ k = 3 ∨ k = 4 ∨ k = 5 ∨ k = 6 ∨ k = 7 := by omega
theorem arr8_at (x : Nat → Bool) {k : Nat} (h : k < 8) : (arr8 x)[k]? = some (.bool (x k)) := by
  rcases eight h with rfl | rfl | rfl | rfl | rfl | rfl | rfl | rfl <;> rfl
theorem arr8_set (x : Nat → Bool) {k : Nat} (h : k < 8) (v : Bool) : (arr8 x).setIfInBounds k (.bool v) = arr8 (Mgr.upd x k v) := by
  rcases eight h with rfl | rfl | rfl | rfl | rfl | rfl | rfl | rfl <;> rfl

/-- The state of the law: the manager, and the marks in their block. -/
structure ImJ (w : World) (p b c : Nat) (B : List (Int × Bfn)) (d : Nat → Bool) (y : World) (M : Mgr) (L : Lay) : Prop where
  own : Own w p y M L
  q : Qk 6 c M B
  arr : y.heap[b]? = some (.cells (arr8 d) 28 (0, 0))
  nb : ¬ L.at p b
  ge : w.heap.size ≤ b
section
variable {w : World} {p b c c' : Nat} {B : List (Int × Bfn)} {d : Nat → Bool} {y z : World} {M : Mgr} {L : Lay} {F : Bfn} {e : Ending}
theorem ImJ.no (j : ImJ w p b c B d y M L) (k : Kp No y z) : ImJ w p b c B d z M L := ⟨j.own.no k, j.q, by rw [k.block _ (heap_lt j.arr) (fun h => h)]; exact j.arr, j.nb, j.ge⟩
theorem ImJ.sub {B' : List (Int × Bfn)} (j : ImJ w p b c B d y M L) (h : ∀ x, x ∈ B' → x ∈ B) (hc : c ≤ c') : ImJ w p b c' B' d y M L := ⟨j.own, (j.q.mono hc).sub h, j.arr, j.nb, j.ge⟩
theorem ImJ.op (j : ImJ w p b c B d y M L) (o : OpQ p 6 c' L y F B e z) : ∃ r M' L', e = .returned (.int .i64 r) ∧ ImJ w p b c' ((r, F) :: B) d z M' L' := by
  obtain ⟨r, M', h, q, _⟩ := o
  obtain ⟨L', rfl, R, k, f⟩ := h
  refine ⟨r, M', L', rfl, ⟨R, j.own.kp.trans (A' := L.at p) (fun x hx => .inr (j.own.own x hx)) k, fun x hx => ?_⟩, q, by rw [k.block _ (heap_lt j.arr) j.nb]; exact j.arr, fun hA => ?_, j.ge⟩
  · rcases f x hx with h1 | h1
    · exact j.own.own x h1
    · have := j.own.kp.size; omega
  · rcases f b hA with h1 | h1
    · exact j.nb h1
    · have := heap_lt j.arr; omega
theorem ImJ.cell (j : ImJ w p b c B d y M L) {k : Nat} (hk : k < 8) : y.cell? ⟨b, k, none⟩ = some (.bool (d k)) ∧ y.frozen? ⟨b, k, none⟩ = false := by
  refine ⟨?_, by simp [World.frozen?, j.arr]⟩
  rw [cell_of_row _ _ _ _ _ _ j.arr, arr8_at d hk]
theorem ImJ.set (j : ImJ w p b c B d y M L) {k : Nat} (hk : k < 8) (v : Bool) : ImJ w p b c B (Mgr.upd d k v) (y.setCell ⟨b, k, none⟩ (.bool v)) M L := by
  have kp : Kp (fun x => x = b) y (y.setCell ⟨b, k, none⟩ (.bool v)) := (Kp.setCell _ _).mono (fun _ _ e => e)
  refine ⟨⟨j.own.rep.kp kp (fun x e hx => j.nb (by rw [← e]; exact hx)), j.own.kp.trans (A' := fun x => x = b) (fun x e => .inr (by rw [e]; exact j.ge)) kp, j.own.own⟩, j.q, ?_, j.nb, j.ge⟩
  rw [setCell_heap j.arr, arr8_set d hk v]
end
theorem inS_upd (xs : Nat → Nat) (i : Nat) : inS xs (i + 1) = Mgr.upd (inS xs i) (xs i) true := by
  funext u
  simp only [inS, Mgr.upd]

def ImA (w : World) (p b : Nat) (xs : Nat → Nat) (N gk : Nat) (s7 s10 : Value) (y : World) : Prop :=
  ∃ i r M L, i + gk = N ∧ s10 = .int .i64 (i : Int) ∧ s7 = .int .i64 r ∧ ImJ w p b (2 + i * 200000000) [(r, setF xs i), (0, fun _ => false)] (inS xs i) y M L
def ImB (w : World) (p b c0 : Nat) (rs : Int) (S : Bfn) (d : Nat → Bool) (ps qs : Nat → Nat) (N gk : Nat) (s6 s8 s11 : Value) (y : World) : Prop :=
  ∃ i r t M L, i + gk = N ∧ s11 = .int .i64 (i : Int) ∧ s6 = .int .i64 r ∧ s8 = .int .i64 t ∧ ImJ w p b (c0 + i * 600000000) [(r, relF ps qs i), (t, wantF d ps qs i), (rs, S)] d y M L

set_option maxRecDepth 1000000 in
set_option maxHeartbeats 16000000 in
theorem QuantImages_walk (l : List (Nat × Nat)) (ls : List Nat) {pv sv : Value} {w : World} (hp : U2At w pv l) (hs : U8At w sv ls) :
    Calls Try.prog 3 #[pv, sv] w fun e w' => e = .returned (.bool true) ∧ Kp No w w' := by
  have HP := Lib.hid hp
  have HS := Lib.hid hs
  obtain ⟨ao, c, rfl, hm, hx2, _⟩ := hp
  obtain ⟨ao2, c2, rfl, hm2, hx1, _⟩ := hs
  unfold maxLen at hm hm2
  by_cases hg : l.length ≤ 40 ∧ ls.length ≤ 20
  case neg =>
    by_cases g1 : (40 : Int) < l.length
    · clear hx1 hx2
      go_enter Try.func3, Try.ntmps3
      go_wp2_with fail
      refine (qawake_ok w).mono ?_
      rintro e w0 ⟨rfl, k0⟩
      have K0 := Lib.hid k0
      clear k0
      go_wp2_with fail
      go_ret
      exact ⟨rfl, K0.out⟩
    · have g3 : (20 : Int) < ls.length := by omega
      clear hx1 hx2
      go_enter Try.func3, Try.ntmps3
      go_wp2_with fail
      refine (qawake_ok w).mono ?_
      rintro e w0 ⟨rfl, k0⟩
      have K0 := Lib.hid k0
      clear k0
      go_wp2_with fail
      go_ret
      exact ⟨rfl, K0.out⟩
  obtain ⟨g1, g2⟩ := hg
  have g1i : ¬ (40 : Int) < l.length := by omega
  have g2i : ¬ (20 : Int) < ls.length := by omega
  have d1 : decide ((40 : Int) < l.length) = false := decide_eq_false g1i
  have d2 : decide ((20 : Int) < ls.length) = false := decide_eq_false g2i
  have HG := Lib.hid (And.intro g1 g2)
  obtain ⟨xs, hxs⟩ : ∃ f : Nat → Nat, (fun i => ls.getD i 0 % 8) = f := ⟨_, rfl⟩
  obtain ⟨ps, hps⟩ : ∃ f : Nat → Nat, (fun i => (l.getD i (0, 0)).1 % 8) = f := ⟨_, rfl⟩
  obtain ⟨qs, hqs⟩ : ∃ f : Nat → Nat, (fun i => (l.getD i (0, 0)).2 % 8) = f := ⟨_, rfl⟩
  have X8 : Hid (∀ i, xs i < 8) := Lib.hid (fun i => by rw [← hxs]; exact Nat.mod_lt _ (by omega))
  have P8 : Hid (∀ i, ps i < 8) := Lib.hid (fun i => by rw [← hps]; exact Nat.mod_lt _ (by omega))
  have Q8 : Hid (∀ i, qs i < 8) := Lib.hid (fun i => by rw [← hqs]; exact Nat.mod_lt _ (by omega))
  have CS : Hid (∀ y, Kp No w y → ∀ i, i < ls.length → ∃ g o x, ao2 = some ⟨g, o, none⟩ ∧ y.cell? ⟨g, o + i, none⟩ = some (.int .u8 (x : Nat)) ∧ x < 256 ∧ bits BinOp.and IntKind.u8 (x : Int) 7 = (xs i : Int)) := Lib.hid (fun y k i hi => by
    obtain ⟨ao', c', hv, _, hb, hc⟩ := HS.out.no k
    have e : ao2 = ao' := by injection hv
    subst e
    rcases hc with hc | ⟨g, o, rfl, _, hc⟩
    · rw [hc] at hi; simp at hi
    · have hl : ls[i] < 256 := hb _ (List.getElem_mem hi)
      refine ⟨g, o, ls[i], rfl, hc i _ (List.getElem?_eq_getElem hi), hl, ?_⟩
      rw [and7 hl, ← hxs]
      simp [hi])
  have CP : Hid (∀ y, Kp No w y → ∀ i, i < l.length → ∃ g o x0 x1, ao = some ⟨g, o, none⟩ ∧ y.cell? ⟨g, o + i * 2, none⟩ = some (.int .u8 (x0 : Nat)) ∧ y.cell? ⟨g, o + i * 2 + 1, none⟩ = some (.int .u8 (x1 : Nat)) ∧ x0 < 256 ∧ x1 < 256 ∧ bits BinOp.and IntKind.u8 (x0 : Int) 7 = (ps i : Int) ∧ bits BinOp.and IntKind.u8 (x1 : Int) 7 = (qs i : Int)) := Lib.hid (fun y k i hi => by
    obtain ⟨ao', c', hv, _, hb, hc⟩ := HP.out.no k
    have e : ao = ao' := by injection hv
    subst e
    rcases hc with hc | ⟨g, o, rfl, _, hc⟩
    · rw [hc] at hi; simp at hi
    · obtain ⟨l0, l1⟩ := hb _ (List.getElem_mem hi)
      obtain ⟨c0, c1⟩ := hc i _ (List.getElem?_eq_getElem hi)
      refine ⟨g, o, (l[i]).1, (l[i]).2, rfl, c0, c1, l0, l1, ?_, ?_⟩
      · rw [and7 l0, ← hps]
        simp [hi]
      · rw [and7 l1, ← hqs]
        simp [hi])
  have NEW := Lib.hid (fun (w0 : World) (k0 : Kp No w w0) => New_own (n := 6) (by omega) k0)
  clear hxs hps hqs hx1 hx2 g1 g2
  generalize l.length = N at *
  generalize ls.length = N2 at *
  go_enter Try.func3, Try.ntmps3
  go_wp2_with fail
  refine (qawake_ok w).mono ?_
  rintro e w0 ⟨rfl, k0⟩
  have K0 := Lib.hid k0
  clear k0
  go_wp2_with fail
  refine (NEW.out w0 K0.out).mono ?_
  rintro e w1 ⟨p, L1, rfl, s1, k1⟩
  have J0 : Hid (ImA w p w1.heap.size xs N2 N2 (.int .i64 0) (.int .i64 0) (w1.alloc (.cells (arr8 fun _ => false) 28))) := Lib.hid ⟨0, 0, Mgr.new 6, L1, by omega, rfl, rfl, s1.no (Kp.alloc _), ((Qk.new 6).consts.mono (by omega)).sub (fun z hz => by
    rcases List.mem_cons.1 hz with rfl | hz
    · exact .head _
    · rw [List.mem_singleton.1 hz]; exact .head _), heap_alloc_new _ _, fun h => by have := s1.rep.lt _ h; omega, s1.kp.size⟩
  clear s1 k1 NEW K0
  go_upto_region 10 with fail
  change Code.wp _ _ _ _ (w1.alloc (.cells (arr8 fun _ => false) 28))
  generalize (w1.alloc (.cells (arr8 fun _ => false) 28)) = w2 at *
  generalize w1.heap.size = b at *
  go_wp2
  go_loopg [7, 10] N2 (fun gk s7 s10 y => ImA w p b xs N2 gk s7 s10 y)
  case atStart => exact J0.out
  case round =>
    clear J0
    obtain ⟨i, r, M, L, hi, rfl, rfl, j⟩ := hrel
    have HI := Lib.hid hi
    by_cases hlt : i < N2
    · have hlti : (i : Int) < N2 := by omega
      obtain ⟨g, o, x, rfl, f0, hx, f1⟩ := CS.out wr j.own.kp i hlt
      have hx8 := X8.out i
      obtain ⟨xi, hxi⟩ : ∃ q, xs i = q := ⟨_, rfl⟩
      obtain ⟨c0, z0⟩ := j.cell (k := xi) (by omega)
      have j1 := j.set (k := xi) (by omega) true
      have hd : inS xs (i + 1) = Mgr.upd (inS xs i) xi true := by rw [inS_upd, hxi]
      rw [← hd] at j1
      have J1 := Lib.hid j1
      obtain ⟨g', o', x', e', f2, hx', f3⟩ := CS.out _ j1.own.kp i hlt
      cases e'
      have C1 := Lib.hid (number_ok (v := 0) (x := xi) (by omega) (by omega) j1.own.rep j1.q (by have := HG.out.2; omega))
      rw [hxi] at f1 f3
      have hxi8 : (xi : Int) < 8 := by omega
      have hxii : (x : Int) < 256 := by omega
      have hxii' : (x' : Int) < 256 := by omega
      have SF : Hid (setF xs (i + 1) = fun a => setF xs i a || numF 0 xi 3 a) := Lib.hid (by rw [← hxi]; rfl)
      clear hi j j1 hd hxi hx8
      generalize inS xs i xi = old at *
      go_upto_region 14 with fail
      generalize (wr.setCell ⟨b, xi, none⟩ (.bool true)) = y0 at *
      clear f0 f1 c0 z0
      go_wp2_with fail
      refine C1.out.mono ?_
      intro e y1 h1
      obtain ⟨r1, M1, L1, rfl, j1⟩ := J1.out.op h1
      have J1' := Lib.hid j1
      have C2 := Lib.hid (OrS (by omega) j1.own.rep j1.q (by have := HG.out.2; omega) (.tail _ (.head _)) (.head _))
      clear h1 j1 C1 J1
      go_wp2_with fail
      refine C2.out.mono ?_
      intro e y2 h2
      obtain ⟨r2, M2, L2, rfl, j2⟩ := J1'.out.op h2
      have JN : Hid (ImA w p b xs N2 (N2 - (i + 1)) (.int .i64 r2) (.int .i64 ((i + 1 : Nat) : Int)) y2) := Lib.hid ⟨i + 1, r2, M2, L2, by have := HI.out; omega, rfl, rfl, by
        rw [SF.out]
        exact j2.sub (fun z hz => by
          rcases List.mem_cons.1 hz with rfl | hz
          · exact .head _
          · rw [List.mem_singleton.1 hz]; exact .tail _ (.tail _ (.tail _ (.head _)))) (by omega)⟩
      clear h2 j2 C2 J1'
      go_wp2
      go_roundg (N2 - (i + 1))
      case measure => have := HI.out; omega
      case rel => exact JN.out
    · obtain rfl : i = N2 := by omega
      have hge : ¬ (i : Int) < i := by omega
      have JB : Hid (ImB w p b (2 + i * 200000000) r (setF xs i) (inS xs i) ps qs N N (.int .i64 0) (.int .i64 0) (.int .i64 0) wr) := Lib.hid ⟨0, 0, 0, M, L, by omega, rfl, rfl, rfl, j.sub (fun z hz => by
        rcases List.mem_cons.1 hz with rfl | hz
        · exact .tail _ (.head _)
        · rcases List.mem_cons.1 hz with rfl | hz
          · exact .tail _ (.head _)
          · rw [List.mem_singleton.1 hz]; exact .head _) (by omega)⟩
      have HI20 : Hid (i ≤ 20) := Lib.hid HG.out.2
      have LAW := Lib.hid (fun k a => image_law xs ps qs i k (fun z _ => X8.out z) (fun z _ => P8.out z) a)
      obtain ⟨S, hS⟩ : ∃ S, setF xs i = S := ⟨_, rfl⟩
      obtain ⟨d, hd⟩ : ∃ d, inS xs i = d := ⟨_, rfl⟩
      rw [hS, hd] at JB
      rw [hS, hd] at LAW
      clear hi hlt j hS hd HI CS X8 HS
      go_wp2
      go_loopg [6, 8, 11] N (fun gk s6 s8 s11 y => ImB w p b (2 + i * 200000000) r S d ps qs N gk s6 s8 s11 y)
      case atStart => exact JB.out
      case round =>
        clear JB
        obtain ⟨k, r1, t, M, L, hk, rfl, rfl, rfl, j⟩ := hrel
        have HK := Lib.hid hk
        by_cases hlt : k < N
        · have hlti : (k : Int) < N := by omega
          obtain ⟨g, o, x0, x1, rfl, f0, f1, hx0, hx1, f2, f3⟩ := CP.out wr j.own.kp k hlt
          have hx0i : (x0 : Int) < 256 := by omega
          have hx1i : (x1 : Int) < 256 := by omega
          have hp8 := P8.out k
          have hq8 := Q8.out k
          have RF : Hid (relF ps qs (k + 1) = fun a => relF ps qs k a || (numF 0 (ps k) 3 a && numF 3 (qs k) 3 a)) := Lib.hid rfl
          have WF : Hid (wantF d ps qs (k + 1) = if d (ps k) then fun a => wantF d ps qs k a || numF 0 (qs k) 3 a else wantF d ps qs k) := Lib.hid rfl
          generalize ps k = pk at *
          generalize qs k = qk at *
          have hp8i : (pk : Int) < 8 := by omega
          have hq8i : (qk : Int) < 8 := by omega
          have jd := j.no Kp.drew
          have J := Lib.hid jd
          have C1 := Lib.hid (number_ok (v := 0) (x := pk) (by omega) (by omega) jd.own.rep jd.q (by have := HG.out.1; have := HI20.out; omega))
          clear hk j jd
          go_upto_region 18 with (fail)
          go_region
          clear f0 f1 f2 f3
          go_wp2_with fail
          refine C1.out.mono ?_
          intro e y1 h1
          obtain ⟨r2, M1, L1, rfl, j1⟩ := J.out.op h1
          have J1 := Lib.hid j1
          have C2 := Lib.hid (number_ok (v := 3) (x := qk) (by omega) (by omega) j1.own.rep j1.q (by have := HG.out.1; have := HI20.out; omega))
          clear h1 j1 C1 J
          go_wp2_with fail
          refine C2.out.mono ?_
          intro e y2 h2
          obtain ⟨r3, M2, L2, rfl, j2⟩ := J1.out.op h2
          have J2 := Lib.hid j2
          have C3 := Lib.hid (AndS (by omega) j2.own.rep j2.q (by have := HG.out.1; have := HI20.out; omega) (.tail _ (.head _)) (.head _))
          clear h2 j2 C2 J1
          go_wp2_with fail
          refine C3.out.mono ?_
          intro e y3 h3
          obtain ⟨r4, M3, L3, rfl, j3⟩ := J2.out.op h3
          have J3 := Lib.hid j3
          have C4 := Lib.hid (OrS (by omega) j3.own.rep j3.q (by have := HG.out.1; have := HI20.out; omega) (.tail _ (.tail _ (.tail _ (.head _)))) (.head _))
          clear h3 j3 C3 J2
          go_wp2_with fail
          refine C4.out.mono ?_
          intro e y4 h4
          obtain ⟨r5, M4, L4, rfl, j4⟩ := J3.out.op h4
          have j5 := j4.sub (c' := 2 + i * 200000000 + k * 600000000 + 400000000) (B' := [(r5, fun a => relF ps qs k a || (numF 0 pk 3 a && numF 3 qk 3 a)), (t, wantF d ps qs k), (r, S)]) (fun z hz => by
            rcases List.mem_cons.1 hz with rfl | hz
            · exact .head _
            · rcases List.mem_cons.1 hz with rfl | hz
              · exact .tail _ (.tail _ (.tail _ (.tail _ (.tail _ (.head _)))))
              · rw [List.mem_singleton.1 hz]; exact .tail _ (.tail _ (.tail _ (.tail _ (.tail _ (.tail _ (.head _))))))) (by omega)
          have J5 := Lib.hid j5
          obtain ⟨c0, _⟩ := j5.cell (k := pk) hp8
          have C5 := Lib.hid (number_ok (v := 0) (x := qk) (by omega) (by omega) j5.own.rep j5.q (by have := HG.out.1; have := HI20.out; omega))
          clear h4 j4 j5 C4 J3
          cases hdp : d pk with
          | false =>
            rw [hdp] at c0
            have JN : Hid (ImB w p b (2 + i * 200000000) r S d ps qs N (N - (k + 1)) (.int .i64 r5) (.int .i64 t) (.int .i64 ((k + 1 : Nat) : Int)) y4) := Lib.hid ⟨k + 1, r5, t, M4, L4, by have := HK.out; omega, rfl, rfl, rfl, by
              rw [RF.out, WF.out, hdp]
              exact J5.out.sub (fun z hz => hz) (by omega)⟩
            clear hdp C5 J5 RF WF
            go_wp2
            go_roundg (N - (k + 1))
            case measure => have := HK.out; omega
            case rel => exact JN.out
          | true =>
            rw [hdp] at c0
            have HDP := Lib.hid hdp
            clear hdp
            go_wp2_with fail
            refine C5.out.mono ?_
            intro e y5 h5
            obtain ⟨r6, M5, L5, rfl, j6⟩ := J5.out.op h5
            have J6 := Lib.hid j6
            have C6 := Lib.hid (OrS (by omega) j6.own.rep j6.q (by have := HG.out.1; have := HI20.out; omega) (.tail _ (.tail _ (.head _))) (.head _))
            clear h5 j6 C5 J5 c0
            go_wp2_with fail
            refine C6.out.mono ?_
            intro e y6 h6
            obtain ⟨r7, M6, L6, rfl, j7⟩ := J6.out.op h6
            have JN : Hid (ImB w p b (2 + i * 200000000) r S d ps qs N (N - (k + 1)) (.int .i64 r5) (.int .i64 r7) (.int .i64 ((k + 1 : Nat) : Int)) y6) := Lib.hid ⟨k + 1, r5, r7, M6, L6, by have := HK.out; omega, rfl, rfl, rfl, by
              rw [RF.out, WF.out, HDP.out, if_pos rfl]
              exact j7.sub (fun z hz => by
                rcases List.mem_cons.1 hz with rfl | hz
                · exact .tail _ (.tail _ (.head _))
                · rcases List.mem_cons.1 hz with rfl | hz
                  · exact .head _
                  · rw [List.mem_singleton.1 hz]; exact .tail _ (.tail _ (.tail _ (.tail _ (.head _))))) (by omega)⟩
            clear h6 j7 C6 J6 RF WF
            go_wp2
            go_roundg (N - (k + 1))
            case measure => have := HK.out; omega
            case rel => exact JN.out
        · obtain rfl : k = N := by omega
          have hge : ¬ (k : Int) < k := by omega
          have j1 := j.no (Kp.alloc (.cells #[.int .i64 0, .int .i64 1, .int .i64 2] 3))
          have J1 := Lib.hid j1
          have C1 := Lib.hid (AndExS (by omega) j1.own.rep j1.q (by have := HG.out.1; have := HI20.out; omega) (.head _) (.tail _ (.tail _ (.head _))) [0, 1, 2] (by decide) (by decide) (SrcAt.lit wr [0, 1, 2] 3))
          clear hk hlt j j1
          go_wp2_with fail
          refine C1.out.mono ?_
          intro e y1 h1
          obtain ⟨r2, M1, L1, rfl, j1⟩ := J1.out.op h1
          have j2 := (j1.no (Kp.alloc (.cells #[.int .i64 3, .int .i64 4, .int .i64 5] 3))).no (Kp.alloc (.cells #[.int .i64 0, .int .i64 1, .int .i64 2] 3))
          have J2 := Lib.hid j2
          have C2 := Lib.hid (RenameS (by omega) (by omega) j2.own.rep j2.q (by have := HG.out.1; have := HI20.out; omega) (.head _) [3, 4, 5] [0, 1, 2] rfl (by decide) (by decide) (by decide) (by decide) (by decide) ((SrcAt.lit y1 [3, 4, 5] 3).no (Kp.alloc (.cells #[.int .i64 0, .int .i64 1, .int .i64 2] 3))) (SrcAt.lit (y1.alloc (.cells #[.int .i64 3, .int .i64 4, .int .i64 5] 3)) [0, 1, 2] 3))
          rw [show (y1.alloc (.cells #[.int .i64 3, .int .i64 4, .int .i64 5] 3)).heap.size = y1.heap.size + 1 by simp] at C2
          clear h1 j1 j2 C1 J1
          go_wp2_with fail
          refine C2.out.mono ?_
          intro e y2 h2
          obtain ⟨r3, M2, L2, rfl, j3⟩ := J2.out.op h2
          have er : r3 = t := j3.q.eq (.head _) (.tail _ (.tail _ (.tail _ (.head _)))) (fun a => LAW.out k a)
          subst er
          have KF := Lib.hid j3.own.kp
          clear h2 j3 C2 J2
          go_wp2
          go_ret
          exact ⟨by simp, KF.out⟩

end Go.Proofs.Ytngbodmooddjbaa
