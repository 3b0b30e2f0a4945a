/-
  Walks: 'get', 'Decode' of the package header.
-/
import Derived.Test.YtgglkldoclejaaaDoorHw2
namespace Go.Proofs.YtgglkldoclejaaaDoor
open Go.RowKit

/-- What 'get' reads. -/
def getP (a : Nat → Bool) (nx : Bool) : Pkt := ⟨fval 0 nx a, fval 1 nx a, (fval 2 nx a : Int), (fval 3 nx a : Int), (fval 4 nx a : Int)⟩
theorem fval_hval (k : Nat) (nx : Bool) (a : Nat → Bool) : fval k nx a = hval (fun b => a (fvar k b nx)) (fw k) := by rw [hval_eq]; rfl
theorem fval_lt (k : Nat) (nx : Bool) (a : Nat → Bool) : fval k nx a < 2 ^ fw k := bval_lt _ _
theorem getP_f (a : Nat → Bool) (nx : Bool) {k : Nat} (hk : k < 5) : (getP a nx).f k = fval k nx a := by
  have h2 := fval_lt 2 nx a
  have h3 := fval_lt 3 nx a
  have h4 := fval_lt 4 nx a
  rw [show 2 ^ fw 2 = 256 from rfl] at h2
  rw [show 2 ^ fw 3 = 65536 from rfl] at h3
  rw [show 2 ^ fw 4 = 65536 from rfl] at h4
  rcases five hk with rfl | rfl | rfl | rfl | rfl
  · rfl
  · rfl
  · show u32 (fval 2 nx a : Int) = _; unfold u32; omega
  · show u32 (fval 3 nx a : Int) = _; unfold u32; omega
  · show u32 (fval 4 nx a : Int) = _; unfold u32; omega
theorem getP_ok (a : Nat → Bool) (nx : Bool) : (getP a nx).ok := by
  have h0 := fval_lt 0 nx a
  have h1 := fval_lt 1 nx a
  have h2 := fval_lt 2 nx a
  have h3 := fval_lt 3 nx a
  have h4 := fval_lt 4 nx a
  rw [show 2 ^ fw 0 = 4294967296 from rfl] at h0
  rw [show 2 ^ fw 1 = 4294967296 from rfl] at h1
  rw [show 2 ^ fw 2 = 256 from rfl] at h2
  rw [show 2 ^ fw 3 = 65536 from rfl] at h3
  rw [show 2 ^ fw 4 = 65536 from rfl] at h4
  exact ⟨h0, h1, by show 0 ≤ (fval 2 nx a : Int) ∧ (fval 2 nx a : Int) ≤ 255; omega, by show 0 ≤ (fval 3 nx a : Int) ∧ (fval 3 nx a : Int) ≤ 65535; omega, by show 0 ≤ (fval 4 nx a : Int) ∧ (fval 4 nx a : Int) ≤ 65535; omega⟩
theorem Pkt.ok.f_val {p : Pkt} (h : p.ok) : (p.f 2 : Int) = p.proto ∧ (p.f 3 : Int) = p.sport ∧ (p.f 4 : Int) = p.dport := by
  obtain ⟨_, _, h2, h3, h4⟩ := h
  refine ⟨?_, ?_, ?_⟩
  · show ((u32 p.proto : Nat) : Int) = _; unfold u32; omega
  · show ((u32 p.sport : Nat) : Int) = _; unfold u32; omega
  · show ((u32 p.dport : Nat) : Int) = _; unfold u32; omega
theorem fval_u32 (k : Nat) (nx : Bool) (a : Nat → Bool) : fval k nx a < 4294967296 := by
  have h := fval_lt k nx a
  have : 2 ^ fw k ≤ 2 ^ 32 := Nat.pow_le_pow_right (by omega) (fw_le k)
  omega
/-- 'Decode' reads what 'Encode' was given. -/
theorem getP_enc (down : Nat → Bool) {p q : Pkt} (hp : p.ok) (hq : q.ok) (nx : Bool) {a : Nat → Bool} (ha : ∀ v, v < 220 → a v = encF down p q v) : getP a nx = if nx then q else p := by
  have hz : (if nx then q else p).ok := by cases nx <;> simp [hp, hq]
  have e := fun {k : Nat} (hk : k < 5) => fval_enc down hp hq hk nx ha
  unfold getP
  rw [e (k := 0) (by omega), e (k := 1) (by omega), e (k := 2) (by omega), e (k := 3) (by omega), e (k := 4) (by omega)]
  generalize (if nx then q else p) = z at *
  obtain ⟨h2, h3, h4⟩ := hz.f_val
  rw [h2, h3, h4]
  rfl

theorem Kp.set5 (w : World) (b : Nat) (v0 v1 v2 v3 v4 : Value) : Kp (fun x => x = b) w (((((w.setCell ⟨b, 0, none⟩ v0).setCell ⟨b, 1, none⟩ v1).setCell ⟨b, 2, none⟩ v2).setCell ⟨b, 3, none⟩ v3).setCell ⟨b, 4, none⟩ v4) :=
  have f : ∀ w : World, Fresh (fun x => x = b) (fun x => x = b) w := fun _ _ h => .inl h
  ((((Kp.setCell ⟨b, 0, none⟩ v0).trans (f _) (Kp.setCell ⟨b, 1, none⟩ v1)).trans (f _) (Kp.setCell ⟨b, 2, none⟩ v2)).trans (f _) (Kp.setCell ⟨b, 3, none⟩ v3)).trans (f _) (Kp.setCell ⟨b, 4, none⟩ v4)

/-! ### 'get' -/
def arrV (x0 x1 x2 x3 x4 : Nat) : Array Value := #[.int .u32 (x0 : Int), .int .u32 (x1 : Int), .int .u32 (x2 : Int), .int .u32 (x3 : Int), .int .u32 (x4 : Int)]
set_option maxRecDepth 100000 in
theorem packet_ok (x0 x1 x2 x3 x4 : Nat) (h2 : x2 < 4294967296) (h3 : x3 < 4294967296) (h4 : x4 < 4294967296) (w : World) : Calls Tryd.prog 76 #[.agg (arrV x0 x1 x2 x3 x4)] w fun e w' => e = .returned (pktV ⟨x0, x1, (x2 : Int), (x3 : Int), (x4 : Int)⟩) ∧ Kp No w w' := by
  unfold arrV
  go_enter Tryd.func76, Tryd.ntmps76
  go_wp2_with fail
  refine bodyPost_ret (v := pktV ⟨x0, x1, (x2 : Int), (x3 : Int), (x4 : Int)⟩) ?_ rfl ⟨rfl, (Kp.alloc _).trans_no (Kp.alloc _)⟩
  unfold pktV
  simp [results, Tryd.results76, go_sem]

def zeroPkt : Array Value := #[.int .u32 0, .int .u32 0, .int .i64 0, .int .i64 0, .int .i64 0]
/-- The state of 'get'. -/
structure GetJ (w wr : World) (x : Nat → Nat) : Prop where
  arr : wr.heap[w.heap.size + 1]? = some (.cells (arrV (x 0) (x 1) (x 2) (x 3) (x 4)) 120 (0, 0))
  res : wr.heap[w.heap.size]? = some (.cells zeroPkt 29 (0, 0))
  kp : Kp No w wr
def updN (x : Nat → Nat) (k v : Nat) : Nat → Nat := fun i => if i = k then v else x i
section
variable {w wr w' : World} {x : Nat → Nat}
theorem GetJ.no (j : GetJ w wr x) (k : Kp No wr w') : GetJ w w' x :=
  ⟨by rw [k.block _ (heap_lt j.arr) (fun h => h)]; exact j.arr, by rw [k.block _ (heap_lt j.res) (fun h => h)]; exact j.res, j.kp.trans_no k⟩
theorem GetJ.cell (j : GetJ w wr x) {k : Nat} (hk : k < 5) : wr.cell? ⟨w.heap.size + 1, k, none⟩ = some (.int .u32 (x k : Int)) ∧ wr.frozen? ⟨w.heap.size + 1, k, none⟩ = false := by
  refine ⟨?_, by simp [World.frozen?, j.arr]⟩
  rw [cell_of_row _ _ _ _ _ _ j.arr]
  rcases five hk with rfl | rfl | rfl | rfl | rfl <;> rfl
theorem GetJ.set (j : GetJ w wr x) {k : Nat} (hk : k < 5) (v : Nat) : GetJ w (wr.setCell ⟨w.heap.size + 1, k, none⟩ (.int .u32 (v : Int))) (updN x k v) := by
  refine ⟨?_, ?_, j.kp.trans (A' := fun b => b = w.heap.size + 1) (fun b e => .inr (by omega)) ((Kp.setCell _ _).mono (fun _ _ e => e))⟩
  · rw [setCell_heap j.arr]
    rcases five hk with rfl | rfl | rfl | rfl | rfl <;> rfl
  · rw [(Kp.setCell (w := wr) ⟨w.heap.size + 1, k, none⟩ (.int .u32 (v : Int))).block _ (heap_lt j.res) (by show ¬ w.heap.size = w.heap.size + 1; omega)]; exact j.res
end

/-- What the fields are when k are read, and b bits of the next one. -/
def gx (a : Nat → Bool) (nx : Bool) (k b : Nat) : Nat → Nat := fun i => if i < k then fval i nx a else if i = k then hval (fun b => a (fvar k b nx)) b else 0
theorem gx_step (a : Nat → Bool) (nx : Bool) (k b : Nat) : updN (updN (gx a nx k b) k (2 * hval (fun b => a (fvar k b nx)) b)) k (2 * hval (fun b => a (fvar k b nx)) b + if a (fvar k b nx) then 1 else 0) = gx a nx k (b + 1) := by
  funext i
  unfold updN gx
  by_cases h : i = k
  · subst h; simp only [if_true, Nat.lt_irrefl, if_false]; rfl
  · simp only [h, if_false]
theorem gx_step0 (a : Nat → Bool) (nx : Bool) (k b : Nat) (h : a (fvar k b nx) = false) : updN (gx a nx k b) k (2 * hval (fun b => a (fvar k b nx)) b) = gx a nx k (b + 1) := by
  funext i
  unfold updN gx
  by_cases h' : i = k
  · subst h'; simp only [if_true, Nat.lt_irrefl, if_false]; simp only [hval, h, Bool.false_eq_true, if_false, Nat.add_zero]
  · simp only [h', if_false]
theorem gx_next (a : Nat → Bool) (nx : Bool) (k : Nat) : gx a nx k (fw k) = gx a nx (k + 1) 0 := by
  funext i
  unfold gx
  by_cases h : i < k
  · rw [if_pos h, if_pos (by omega)]
  · rw [if_neg h]
    by_cases h2 : i = k
    · subst h2; rw [if_pos rfl, if_pos (by omega), fval_hval]
    · rw [if_neg h2, if_neg (by omega)]; split <;> rfl
theorem gx_at (a : Nat → Bool) (nx : Bool) (k b : Nat) : gx a nx k b k = hval (fun b => a (fvar k b nx)) b := by unfold gx; simp

def GetO (w : World) (a : Nat → Bool) (nx : Bool) (gk : Nat) (s : Value) (wr : World) : Prop := ∃ k, k + gk = 5 ∧ s = .int .i64 (k : Int) ∧ GetJ w wr (gx a nx k 0)
def GetI (w : World) (a : Nat → Bool) (nx : Bool) (k f gk : Nat) (s : Value) (wr : World) : Prop := ∃ b, b + gk = f ∧ s = .int .i64 (b : Int) ∧ GetJ w wr (gx a nx k b)

set_option maxRecDepth 100000 in
set_option maxHeartbeats 2000000 in
theorem get_ok (nx : Bool) {av : Value} {l : List Bool} {w : World} (g : Gl w) (hb : Bools w av l) :
    Calls Tryd.prog 60 #[av, .bool nx] w fun e w' => e = .returned (pktV (getP (asg l) nx)) ∧ Kp No w w' := by
  have GLW := Lib.hid g
  have HB := Lib.hid hb
  obtain ⟨ao, c, rfl, _, _⟩ := hb
  clear g
  go_enter Tryd.func60, Tryd.ntmps60
  go_wp2_with fail
  have J0 : Hid (GetO w (asg l) nx 5 (.int .i64 0) ((w.alloc (.cells zeroPkt 29)).alloc (.cells (arrV 0 0 0 0 0) 120))) := Lib.hid (by
    refine ⟨0, by omega, rfl, ?_, ?_, (Kp.alloc _).trans_no (Kp.alloc _)⟩
    · have h := heap_alloc_new (w.alloc (.cells zeroPkt 29)) (.cells (arrV 0 0 0 0 0) 120)
      rw [show (w.alloc (.cells zeroPkt 29)).heap.size = w.heap.size + 1 by simp] at h
      exact h
    · have h := heap_alloc_new w (.cells zeroPkt 29)
      rw [(Kp.alloc (w := w.alloc (.cells zeroPkt 29)) (.cells (arrV 0 0 0 0 0) 120)).block _ (heap_lt h) (fun x => x)]
      exact h)
  unfold zeroPkt arrV at J0
  go_loopg [9] 5 (fun gk s wr => GetO w (asg l) nx gk s wr)
  case atStart => exact J0.out
  case round =>
    clear J0
    obtain ⟨k, hk, rfl, j⟩ := hrel
    by_cases hlt : k < 5
    · have hlti : (k : Int) < 5 := by omega
      have HK := Lib.hid hk
      have J := Lib.hid j
      have JI : Hid (GetI w (asg l) nx k (fw k) (fw k) (.int .i64 0) wr) := Lib.hid ⟨0, by omega, rfl, j⟩
      have W := Lib.hid (fun (x : World) (h : Gl x) => Width_in k hlt h)
      have V := Lib.hid (fun (x : World) (h : Gl x) (b : Nat) (hb : b < fw k) => HVar_in k b nx hlt hb h)
      have NX := Lib.hid (gx_next (asg l) nx k)
      have hfw := fw_le k
      have hff := ff_fw hlt
      generalize fw k = f at *
      clear hk j
      go_wp2_with fail
      refine (W.out wr (GLW.out.no J.out.kp)).mono ?_
      rintro e w' ⟨rfl, rfl⟩
      clear J
      go_wp2_with fail
      go_loopg [14] f (fun gk s wr => GetI w (asg l) nx k f gk s wr)
      case atStart => exact JI.out
      case round =>
        clear JI
        obtain ⟨b, hb, rfl, j⟩ := hrel
        by_cases hbl : b < f
        · have hbi : (b : Int) < f := by omega
          have HBB := Lib.hid hb
          obtain ⟨c1, z1⟩ := j.cell hlt
          rw [gx_at] at c1
          have hh := hval_lt (fun b => asg l (fvar k b nx)) b
          have hp : 2 ^ b ≤ 2 ^ 31 := Nat.pow_le_pow_right (by omega) (by omega)
          have ST := Lib.hid (gx_step (asg l) nx k b)
          have ST0 := Lib.hid (gx_step0 (asg l) nx k b)
          have hv : fvar k b nx < 220 := hvar_lt (by omega) nx
          generalize hval (fun b => asg l (fvar k b nx)) b = y at *
          have hy : (y : Int) < 2147483648 := by omega
          have J := Lib.hid j
          clear hb hh hp j
          go_wp2_with fail
          have j := J.out
          have j1 := j.set hlt (2 * y)
          obtain ⟨c2, z2⟩ := j1.cell hlt
          have e2 : updN (gx (asg l) nx k b) k (2 * y) k = 2 * y := by unfold updN; rw [if_pos rfl]
          rw [e2] at c2
          have j2 := j1.set hlt (2 * y + 1)
          have hc2 : ((2 * y : Nat) : Int) = (y : Int) * 2 := by omega
          have hc3 : ((2 * y + 1 : Nat) : Int) = (y : Int) * 2 + 1 := by omega
          have VB := Lib.hid (V.out _ (GLW.out.no j1.kp) b hbl)
          have HW := HB.out.no j1.kp
          obtain ⟨ao', c', hv', _, hcells⟩ := HW
          have hv1 : ao = ao' := by injection hv'
          subst hv1
          rw [hc2] at j1 j2 c2 z2 VB hcells
          rw [hc3] at j2
          clear J c1 z1 e2 j
          generalize fvar k b nx = v at *
          generalize wr.setCell ⟨w.heap.size + 1, k, none⟩ (.int .u32 ((y : Int) * 2)) = w2 at *
          cases hbit : asg l v
          · have JN : Hid (GetI w (asg l) nx k f (f - (b + 1)) (.int .i64 ((b + 1 : Nat) : Int)) w2) := Lib.hid ⟨b + 1, by omega, rfl, by rw [← ST0.out hbit]; exact j1⟩
            by_cases hvl : v < l.length
            · rcases hcells with hcells | ⟨g, o, rfl, hcells⟩
              · rw [hcells] at hvl; simp at hvl
              have hc : w2.cell? ⟨g, o + v, none⟩ = some (.bool false) := hcells v _ (by
                have : l.getD v false = false := hbit
                simp [hvl] at this ⊢; exact this)
              have hvi : (v : Int) < l.length := by omega
              clear j1 j2 hc2 hc3 hcells hv' hbit
              refine VB.out.mono ?_
              rintro e w' ⟨rfl, rfl⟩
              go_wp2_with fail
              go_roundg (f - (b + 1))
              case measure => have := HBB.out; omega
              case rel => exact JN.out
            · have hvi : ¬ (v : Int) < l.length := by omega
              clear j1 j2 hc2 hc3 hcells hv' hbit
              refine VB.out.mono ?_
              rintro e w' ⟨rfl, rfl⟩
              go_wp2_with fail
              go_roundg (f - (b + 1))
              case measure => have := HBB.out; omega
              case rel => exact JN.out
          · have hvl : v < l.length := by
              rcases Nat.lt_or_ge v l.length with h | h
              · exact h
              · unfold asg at hbit; rw [List.getD_eq_getElem?_getD, List.getElem?_eq_none h] at hbit; cases hbit
            rcases hcells with hcells | ⟨g, o, rfl, hcells⟩
            · rw [hcells] at hvl; simp at hvl
            have hc : w2.cell? ⟨g, o + v, none⟩ = some (.bool true) := hcells v _ (by
              have : l.getD v false = true := hbit
              simp [hvl] at this ⊢; exact this)
            have hvi : (v : Int) < l.length := by omega
            have JN : Hid (GetI w (asg l) nx k f (f - (b + 1)) (.int .i64 ((b + 1 : Nat) : Int)) (w2.setCell ⟨w.heap.size + 1, k, none⟩ (.int .u32 ((y : Int) * 2 + 1)))) := Lib.hid ⟨b + 1, by omega, rfl, by
              have := ST.out
              rw [hbit, if_pos rfl] at this
              rw [← this]; exact j2⟩
            clear j1 j2 hc2 hc3 hcells hv' hbit
            refine VB.out.mono ?_
            rintro e w' ⟨rfl, rfl⟩
            go_wp2_with fail
            go_roundg (f - (b + 1))
            case measure => have := HBB.out; omega
            case rel => exact JN.out
        · obtain rfl : b = f := by omega
          have JN : Hid (GetO w (asg l) nx (5 - (k + 1)) (.int .i64 ((k + 1 : Nat) : Int)) wr) := Lib.hid ⟨k + 1, by omega, rfl, by rw [← NX.out]; exact j⟩
          have hbi : ¬ (b : Int) < b := by omega
          clear hb j hbl
          go_wp2_with fail
          go_roundg (5 - (k + 1))
          case measure => have := HK.out; omega
          case rel => exact JN.out
    · obtain rfl : k = 5 := by omega
      have e5 : gx (asg l) nx 5 0 = fun i => if i < 5 then fval i nx (asg l) else 0 := by
        funext i; unfold gx; split
        · rfl
        · split <;> simp [hval]
      rw [e5] at j
      obtain ⟨c0, _⟩ := j.cell (k := 0) (by omega)
      obtain ⟨c1, _⟩ := j.cell (k := 1) (by omega)
      obtain ⟨c2, _⟩ := j.cell (k := 2) (by omega)
      obtain ⟨c3, _⟩ := j.cell (k := 3) (by omega)
      obtain ⟨c4, _⟩ := j.cell (k := 4) (by omega)
      simp only [show (0:Nat) < 5 from by omega, show (1:Nat) < 5 from by omega, show (2:Nat) < 5 from by omega, show (3:Nat) < 5 from by omega, show (4:Nat) < 5 from by omega, if_true] at c0 c1 c2 c3 c4
      have PK := Lib.hid (fun (x : World) => packet_ok (fval 0 nx (asg l)) (fval 1 nx (asg l)) (fval 2 nx (asg l)) (fval 3 nx (asg l)) (fval 4 nx (asg l)) (fval_u32 _ _ _) (fval_u32 _ _ _) (fval_u32 _ _ _) x)
      have hPK : pktV ⟨fval 0 nx (asg l), fval 1 nx (asg l), (fval 2 nx (asg l) : Int), (fval 3 nx (asg l) : Int), (fval 4 nx (asg l) : Int)⟩ = pktV (getP (asg l) nx) := rfl
      rw [hPK] at PK
      unfold arrV at PK
      have J := Lib.hid j
      clear hPK j e5 hk hlt
      go_wp2_with fail
      refine (PK.out _).mono ?_
      rintro e w3 ⟨rfl, k3⟩
      have j3 := J.out.no k3
      have r3 := j3.res
      have KP3 := Lib.hid j3.kp
      unfold zeroPkt at r3
      obtain ⟨pk, hpk⟩ : ∃ pk, getP (asg l) nx = pk := ⟨_, rfl⟩
      rw [hpk]
      have HPK := Lib.hid hpk
      unfold pktV
      clear j3 k3 PK c0 c1 c2 c3 c4 hpk J
      have d0 : w3.cell? ⟨w.heap.size, 0, none⟩ = some (.int .u32 0) := by rw [cell_of_row _ _ _ _ _ _ r3]; rfl
      have d1 : w3.cell? ⟨w.heap.size, 1, none⟩ = some (.int .u32 0) := by rw [cell_of_row _ _ _ _ _ _ r3]; rfl
      have d2 : w3.cell? ⟨w.heap.size, 2, none⟩ = some (.int .i64 0) := by rw [cell_of_row _ _ _ _ _ _ r3]; rfl
      have d3 : w3.cell? ⟨w.heap.size, 3, none⟩ = some (.int .i64 0) := by rw [cell_of_row _ _ _ _ _ _ r3]; rfl
      have d4 : w3.cell? ⟨w.heap.size, 4, none⟩ = some (.int .i64 0) := by rw [cell_of_row _ _ _ _ _ _ r3]; rfl
      have z0 : ∀ i, w3.frozen? ⟨w.heap.size, i, none⟩ = false := fun i => by simp [World.frozen?, r3]
      go_wp2_with fail
      rw [HPK.out]
      refine bodyPost_ret (v := pktV pk) ?_ rfl ⟨rfl, KP3.out.trans (A' := fun x => x = w.heap.size) (fun x e => .inr (by omega)) (Kp.set5 _ _ _ _ _ _ _)⟩
      unfold pktV
      simp [results, Tryd.results60, go_sem, d0, d1, d2, d3, d4]

end Go.Proofs.YtgglkldoclejaaaDoor
