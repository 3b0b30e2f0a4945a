/-
  Walks: the law TranslateRelates (printed by gen_tl.py).
-/
import Derived.Test.YtcebhlhpmdladaaGreatDoorTr
import Derived.Test.YtcebhlhpmdladaaGreatDoorNv
import Derived.Deep.CutBlock
namespace Go.Proofs.YtcebhlhpmdladaaGreatDoor
open Go.RowKit

/-- Two packets are equal. -/
def pkEq (a b : Pkt) : Bool := decide (a.src = b.src) && decide (a.dst = b.dst) && decide (a.proto = b.proto) && decide (a.sport = b.sport) && decide (a.dport = b.dport)
theorem pkEq_iff {a b : Pkt} : pkEq a b = true ↔ a = b := by
  unfold pkEq
  simp only [Bool.and_eq_true, decide_eq_true_eq]
  constructor
  · rintro ⟨⟨⟨⟨h0, h1⟩, h2⟩, h3⟩, h4⟩
    cases a
    cases b
    simp only [Pkt.mk.injEq]
    exact ⟨h0, h1, h2, h3, h4⟩
  · rintro rfl
    exact ⟨⟨⟨⟨rfl, rfl⟩, rfl⟩, rfl⟩, rfl⟩
theorem eqlPk (a b : Pkt) (W : World) : (binOp .eql 45 (pktV a) (pktV b)).run Tryz.prog W = .ok (.bool (pkEq a b)) W := by
  unfold pktV
  by_cases h : a = b
  · subst h
    rw [pkEq_iff.2 rfl]
    go_simp
  · rw [show pkEq a b = false from by rw [Bool.eq_false_iff]; exact fun e => h (pkEq_iff.1 e)]
    go_simp
    intro h0 h1 h2 h3 h4
    apply h
    obtain ⟨p0, p1, p2, p3, p4⟩ := a
    obtain ⟨q0, q1, q2, q3, q4⟩ := b
    simp only [Pkt.mk.injEq] at *
    omega
/-- A list has a packet. -/
def hasB (l : List Pkt) (p : Pkt) : Bool := l.any fun q => pkEq q p
theorem hasB_iff {l : List Pkt} {p : Pkt} : hasB l p = true ↔ p ∈ l := by
  unfold hasB
  rw [List.any_eq_true]
  constructor
  · rintro ⟨q, hq, e⟩
    rw [← pkEq_iff.1 e]; exact hq
  · intro h
    exact ⟨p, h, pkEq_iff.2 rfl⟩
def HsJ (w : World) (l : List Pkt) (p : Pkt) (gk : Nat) (s : Value) (x : World) : Prop := ∃ k : Nat, k + gk = l.length ∧ s = .int .i64 (k : Int) ∧ Kp No w x ∧ ∀ j (hj : j < l.length), j < k → pkEq l[j] p = false

set_option maxRecDepth 100000 in
set_option maxHeartbeats 2000000 in
theorem has_ok (l : List Pkt) (p : Pkt) (v : Value) (w : World) (h : PksIn w v l) : Calls Tryz.prog 12 #[v, pktV p] w fun e w' => e = .returned (.bool (hasB l p)) ∧ Kp No w w' := by
  have PI := Lib.hid h
  obtain ⟨g, cap, rfl, hc1, hc2, _, _⟩ := h
  have h0 : PkB (w.alloc (.cells #[.int .u32 (p.src : Int), .int .u32 (p.dst : Int), .int .i64 p.proto, .int .i64 p.sport, .int .i64 p.dport] 45)) w.heap.size p := heap_alloc_new w _
  have k0 := Kp.alloc (w := w) (.cells #[.int .u32 (p.src : Int), .int .u32 (p.dst : Int), .int .i64 p.proto, .int .i64 p.sport, .int .i64 p.dport] 45)
  have hli : (l.length : Int) ≤ 9223372036854775807 := by omega
  have EQ := Lib.hid (fun (a : Pkt) (W : World) => eqlPk a p W)
  unfold pktV at *
  go_enter Tryz.func12, Tryz.ntmps12
  go_upto_region 1 with fail
  generalize w.alloc (.cells #[.int .u32 (p.src : Int), .int .u32 (p.dst : Int), .int .i64 p.proto, .int .i64 p.sport, .int .i64 p.dport] 45) = X at *
  have PX := Lib.hid h0
  have KX := Lib.hid k0
  clear h0 k0
  go_wp2
  go_loopg [5] l.length (fun gk s x => HsJ X l p gk s x)
  case atStart => exact ⟨0, by omega, rfl, Kp.refl _ _, fun j _ hj => absurd hj (by omega)⟩
  case round =>
    obtain ⟨k, hk, rfl, kp, hno⟩ := hrel
    have HK := Lib.hid hk
    have KP := Lib.hid kp
    have HNO := Lib.hid hno
    clear hno hk
    by_cases hlt : k < l.length
    · have hlti : (k : Int) < l.length := by omega
      have HLT := Lib.hid hlt
      obtain ⟨g', cap', e, _, _, hg, hc⟩ := PI.out.no (KX.out.trans_no kp)
      cases e
      have CE := Lib.hid (hc k l[k] (List.getElem?_eq_getElem hlt))
      have NEXT : Hid (pkEq l[k] p = false → ∀ j (hj : j < l.length), j < k + 1 → pkEq l[j] p = false) := Lib.hid (fun h j hj hj2 => by
        by_cases e : j = k
        · subst e; exact h
        · exact HNO.out j hj (by omega))
      have HIT : Hid (pkEq l[k] p = true → hasB l p = true) := Lib.hid (fun h => hasB_iff.2 (by rw [← pkEq_iff.1 h]; exact List.getElem_mem hlt))
      have EL := EQ.out l[k]
      generalize l[k] = a at *
      have hk0 : ¬ (k : Int) < 0 := by omega
      have hkl : ¬ (k : Int) ≥ (l.length : Int) := by omega
      obtain ⟨c0, c1, c2, c3, c4⟩ := CE.out
      obtain ⟨d0, d1, d2, d3, d4⟩ := (PX.out.no kp).c
      clear hc kp hg
      go_upto_region 4 with fail
      refine wp_region_held_drew (S := fun y => (y.cell? ⟨g, k * 5, none⟩ = some (.int .u32 (a.src : Int)) ∧ y.cell? ⟨g, k * 5 + 1, none⟩ = some (.int .u32 (a.dst : Int)) ∧ y.cell? ⟨g, k * 5 + 2, none⟩ = some (.int .i64 a.proto) ∧ y.cell? ⟨g, k * 5 + 3, none⟩ = some (.int .i64 a.sport) ∧ y.cell? ⟨g, k * 5 + 4, none⟩ = some (.int .i64 a.dport)) ∧ y.cell? ⟨w.heap.size, 0, none⟩ = some (.int .u32 (p.src : Int)) ∧ y.cell? ⟨w.heap.size, 1, none⟩ = some (.int .u32 (p.dst : Int)) ∧ y.cell? ⟨w.heap.size, 2, none⟩ = some (.int .i64 p.proto) ∧ y.cell? ⟨w.heap.size, 3, none⟩ = some (.int .i64 p.sport) ∧ y.cell? ⟨w.heap.size, 4, none⟩ = some (.int .i64 p.dport)) (by kernel_rfl) ⟨⟨c0, c1, c2, c3, c4⟩, d0, d1, d2, d3, d4⟩ (fun hS => ?_)
      clear c0 c1 c2 c3 c4 d0 d1 d2 d3 d4
      have KD := Lib.hid (KP.out.trans_no (Kp.drew (w := wr)))
      refine tk 0 hS ?_
      refine tk 1 hS ?_
      refine tk 2 hS ?_
      refine tk 3 hS ?_
      refine tk 4 hS ?_
      obtain ⟨b, hb⟩ : ∃ b, pkEq a p = b := ⟨_, rfl⟩
      rw [hb] at EL
      refine tk 5 (v := .bool b) hS ?_
      refine wpAnyH_done (by kernel_rfl) ?_ _
      clear hS EL
      generalize wr.drew = Y at *
      cases b
      · have NX := Lib.hid (NEXT.out hb)
        clear hb
        go_wp2
        go_roundg (l.length - (k + 1))
        case measure => have := HK.out; have := HLT.out; omega
        case rel => exact ⟨k + 1, by have := HK.out; have := HLT.out; omega, by go_num, KD.out, NX.out⟩
      · have RET := Lib.hid (HIT.out hb)
        clear hb
        go_wp2
        go_ret
        exact ⟨by rw [RET.out]; rfl, KX.out.trans_no KD.out⟩
    · obtain rfl : k = l.length := by have := HK.out; omega
      have RET : Hid (hasB l p = false) := Lib.hid (by
        rw [Bool.eq_false_iff]
        intro h
        obtain ⟨j, hj, e⟩ := List.getElem_of_mem (hasB_iff.1 h)
        have := HNO.out j hj hj
        rw [e, pkEq_iff.2 rfl] at this
        cases this)
      have hge : ¬ (l.length : Int) < l.length := by omega
      clear kp hlt
      go_wp2
      go_ret
      exact ⟨by rw [RET.out]; rfl, KX.out.trans_no KP.out⟩

theorem NatAt.of {w w' : World} {p : Nat} {L L' : Lay} {cs : Array Value} {ts : List Tr} (h : NatAt w p L cs ts) (k : Kp (L.at p) w w') (f : Fresh (L.at p) (L'.at p) w) : NatAt w' p L' cs ts := by
  obtain ⟨ao, cp, h6, h1, h2, h3⟩ := h
  refine ⟨ao, cp, h6, h1, h2, ?_⟩
  rcases h3 with h0 | ⟨g, o, e, hg, hl, hc⟩
  · exact .inl h0
  refine .inr ⟨g, o, e, Nat.lt_of_lt_of_le hg k.size, fun h => ?_, fun j t hj => ?_⟩
  · rcases f _ h with h | h
    · exact hl h
    · omega
  have := hc j t hj
  have kk : ∀ z, w'.cell? ⟨g, z, none⟩ = w.cell? ⟨g, z, none⟩ := fun z => k.cell (a := ⟨g, z, none⟩) hg hl
  unfold TrAt at this ⊢
  simp only [kk]
  exact this
/-- The law's arguments in their boxes. -/
structure RlB (b : Nat) (cs : Array Value) (p q : Pkt) (y : World) : Prop where
  r : y.heap[b]? = some (.cells cs 41 (0, 0))
  p : PkB y (b + 1) p
  q : PkB y (b + 1 + 1) q
def RlS (b : Nat) (cs : Array Value) (p q : Pkt) (y : World) : Prop := y.heap[b]? = some (.cells cs 41 (0, 0)) ∧ (y.cell? ⟨b + 1, 0, none⟩ = some (.int .u32 (p.src : Int)) ∧ y.cell? ⟨b + 1, 1, none⟩ = some (.int .u32 (p.dst : Int)) ∧ y.cell? ⟨b + 1, 2, none⟩ = some (.int .i64 p.proto) ∧ y.cell? ⟨b + 1, 3, none⟩ = some (.int .i64 p.sport) ∧ y.cell? ⟨b + 1, 4, none⟩ = some (.int .i64 p.dport)) ∧ y.cell? ⟨b + 1 + 1, 0, none⟩ = some (.int .u32 (q.src : Int)) ∧ y.cell? ⟨b + 1 + 1, 1, none⟩ = some (.int .u32 (q.dst : Int)) ∧ y.cell? ⟨b + 1 + 1, 2, none⟩ = some (.int .i64 q.proto) ∧ y.cell? ⟨b + 1 + 1, 3, none⟩ = some (.int .i64 q.sport) ∧ y.cell? ⟨b + 1 + 1, 4, none⟩ = some (.int .i64 q.dport)
section
variable {b : Nat} {cs : Array Value} {p q : Pkt} {y y' : World}
theorem RlB.new (w : World) (cs : Array Value) (p q : Pkt) : RlB w.heap.size cs p q (((w.alloc (.cells cs 41)).alloc (.cells #[.int .u32 (p.src : Int), .int .u32 (p.dst : Int), .int .i64 p.proto, .int .i64 p.sport, .int .i64 p.dport] 45)).alloc (.cells #[.int .u32 (q.src : Int), .int .u32 (q.dst : Int), .int .i64 q.proto, .int .i64 q.sport, .int .i64 q.dport] 45)) := by
  have h0 := heap_alloc_new w (.cells cs 41)
  have z0 : (w.alloc (.cells cs 41)).heap.size = w.heap.size + 1 := by simp
  generalize w.alloc (.cells cs 41) = X0 at *
  have h1 : PkB (X0.alloc (.cells #[.int .u32 (p.src : Int), .int .u32 (p.dst : Int), .int .i64 p.proto, .int .i64 p.sport, .int .i64 p.dport] 45)) X0.heap.size p := heap_alloc_new X0 _
  have k1 := Kp.alloc (w := X0) (.cells #[.int .u32 (p.src : Int), .int .u32 (p.dst : Int), .int .i64 p.proto, .int .i64 p.sport, .int .i64 p.dport] 45)
  have z1 : (X0.alloc (.cells #[.int .u32 (p.src : Int), .int .u32 (p.dst : Int), .int .i64 p.proto, .int .i64 p.sport, .int .i64 p.dport] 45)).heap.size = w.heap.size + 1 + 1 := by simp [z0]
  rw [z0] at h1
  generalize X0.alloc (.cells #[.int .u32 (p.src : Int), .int .u32 (p.dst : Int), .int .i64 p.proto, .int .i64 p.sport, .int .i64 p.dport] 45) = X1 at *
  have h2 : PkB (X1.alloc (.cells #[.int .u32 (q.src : Int), .int .u32 (q.dst : Int), .int .i64 q.proto, .int .i64 q.sport, .int .i64 q.dport] 45)) X1.heap.size q := heap_alloc_new X1 _
  have k2 := Kp.alloc (w := X1) (.cells #[.int .u32 (q.src : Int), .int .u32 (q.dst : Int), .int .i64 q.proto, .int .i64 q.sport, .int .i64 q.dport] 45)
  rw [z1] at h2
  exact ⟨((k1.trans_no k2).block _ (heap_lt h0) (fun h => h)).trans h0, h1.no k2, h2⟩
end
def RlT (b tb : Nat) (p q td : Pkt) (y : World) : Prop := (y.cell? ⟨b + 1, 0, none⟩ = some (.int .u32 (p.src : Int)) ∧ y.cell? ⟨b + 1, 1, none⟩ = some (.int .u32 (p.dst : Int)) ∧ y.cell? ⟨b + 1, 2, none⟩ = some (.int .i64 p.proto) ∧ y.cell? ⟨b + 1, 3, none⟩ = some (.int .i64 p.sport) ∧ y.cell? ⟨b + 1, 4, none⟩ = some (.int .i64 p.dport)) ∧ (y.cell? ⟨b + 1 + 1, 0, none⟩ = some (.int .u32 (q.src : Int)) ∧ y.cell? ⟨b + 1 + 1, 1, none⟩ = some (.int .u32 (q.dst : Int)) ∧ y.cell? ⟨b + 1 + 1, 2, none⟩ = some (.int .i64 q.proto) ∧ y.cell? ⟨b + 1 + 1, 3, none⟩ = some (.int .i64 q.sport) ∧ y.cell? ⟨b + 1 + 1, 4, none⟩ = some (.int .i64 q.dport)) ∧ y.cell? ⟨tb, 0, none⟩ = some (.int .u32 (td.src : Int)) ∧ y.cell? ⟨tb, 1, none⟩ = some (.int .u32 (td.dst : Int)) ∧ y.cell? ⟨tb, 2, none⟩ = some (.int .i64 td.proto) ∧ y.cell? ⟨tb, 3, none⟩ = some (.int .i64 td.sport) ∧ y.cell? ⟨tb, 4, none⟩ = some (.int .i64 td.dport)
/-- What the region that computes the concrete packets leaves. -/
def RlC (w4 : World) (td : Pkt) (fr : List Pkt) (s10 s11 : Value) (x : World) : Prop := ∃ tb, s10 = .pointer (some ⟨tb, 0, none⟩) ∧ PkB x tb td ∧ PksIn x s11 fr ∧ Kp No w4 x ∧ w4.heap.size ≤ tb ∧ (∀ b, s11.ownBlock = some b → w4.heap.size ≤ b)

end Go.Proofs.YtcebhlhpmdladaaGreatDoor
