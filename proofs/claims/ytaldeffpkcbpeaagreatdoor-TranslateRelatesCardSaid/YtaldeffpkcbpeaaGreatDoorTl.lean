/-
  Walks: the law TranslateRelates (printed by gen_tl.py).
-/
import Derived.Test.YtaldeffpkcbpeaaGreatDoorTr
import Derived.Test.YtaldeffpkcbpeaaGreatDoorNv
import Derived.Deep.CutBlock
namespace Go.Proofs.YtaldeffpkcbpeaaGreatDoor
open Go.RowKit

/-- Two packets are equal. -/
def pkEq (a b : Pkt) : Bool := decide (a.src = b.src) && decide (a.dst = b.dst) && decide (a.proto = b.proto) && decide (a.sport = b.sport) && decide (a.dport = b.dport)
theorem pkEq_iff {a b : Pkt} : pkEq a b = true ↔ a = b := by
  unfold pkEq
  simp only [Bool.and_eq_true, decide_eq_true_eq]
  constructor
  · rintro ⟨⟨⟨⟨h0, h1⟩, h2⟩, h3⟩, h4⟩
    cases a
    cases b
    simp only [Pkt.mk.injEq]
    exact ⟨h0, h1, h2, h3, h4⟩
  · rintro rfl
    exact ⟨⟨⟨⟨rfl, rfl⟩, rfl⟩, rfl⟩, rfl⟩
theorem PksIn.lt {w : World} {v : Value} {l : List Pkt} (h : PksIn w v l) (b : Nat) (e : v.ownBlock = some b) : b < w.heap.size := by
  obtain ⟨g, cap, rfl, _, _, hg, _⟩ := h
  cases e
  exact hg
theorem eqlPk (a b : Pkt) (W : World) : (binOp .eql 44 (pktV a) (pktV b)).run Tryz.prog W = .ok (.bool (pkEq a b)) W := by
  unfold pktV
  by_cases h : a = b
  · subst h
    rw [pkEq_iff.2 rfl]
    go_simp
  · rw [show pkEq a b = false from by rw [Bool.eq_false_iff]; exact fun e => h (pkEq_iff.1 e)]
    go_simp
    intro h0 h1 h2 h3 h4
    apply h
    obtain ⟨p0, p1, p2, p3, p4⟩ := a
    obtain ⟨q0, q1, q2, q3, q4⟩ := b
    simp only [Pkt.mk.injEq] at *
    omega
/-- A list has a packet. -/
def hasB (l : List Pkt) (p : Pkt) : Bool := l.any fun q => pkEq q p
theorem hasB_iff {l : List Pkt} {p : Pkt} : hasB l p = true ↔ p ∈ l := by
  unfold hasB
  rw [List.any_eq_true]
  constructor
  · rintro ⟨q, hq, e⟩
    rw [← pkEq_iff.1 e]; exact hq
  · intro h
    exact ⟨p, h, pkEq_iff.2 rfl⟩
def HsJ (w : World) (l : List Pkt) (p : Pkt) (gk : Nat) (s : Value) (x : World) : Prop := ∃ k : Nat, k + gk = l.length ∧ s = .int .i64 (k : Int) ∧ Kp No w x ∧ ∀ j (hj : j < l.length), j < k → pkEq l[j] p = false

set_option maxRecDepth 100000 in
set_option maxHeartbeats 2000000 in
theorem has_ok (l : List Pkt) (p : Pkt) (v : Value) (w : World) (h : PksIn w v l) : Calls Tryz.prog 16 #[v, pktV p] w fun e w' => e = .returned (.bool (hasB l p)) ∧ Kp No w w' := by
  have PI := Lib.hid h
  obtain ⟨g, cap, rfl, hc1, hc2, _, _⟩ := h
  have h0 : PkB (w.alloc (.cells #[.int .u32 (p.src : Int), .int .u32 (p.dst : Int), .int .i64 p.proto, .int .i64 p.sport, .int .i64 p.dport] 44)) w.heap.size p := heap_alloc_new w _
  have k0 := Kp.alloc (w := w) (.cells #[.int .u32 (p.src : Int), .int .u32 (p.dst : Int), .int .i64 p.proto, .int .i64 p.sport, .int .i64 p.dport] 44)
  have hli : (l.length : Int) ≤ 9223372036854775807 := by omega
  have EQ := Lib.hid (fun (a : Pkt) (W : World) => eqlPk a p W)
  unfold pktV at *
  go_enter Tryz.func16, Tryz.ntmps16
  go_upto_region 1 with fail
  generalize w.alloc (.cells #[.int .u32 (p.src : Int), .int .u32 (p.dst : Int), .int .i64 p.proto, .int .i64 p.sport, .int .i64 p.dport] 44) = X at *
  have PX := Lib.hid h0
  have KX := Lib.hid k0
  clear h0 k0
  go_wp2
  go_loopg [5] l.length (fun gk s x => HsJ X l p gk s x)
  case atStart => exact ⟨0, by omega, rfl, Kp.refl _ _, fun j _ hj => absurd hj (by omega)⟩
  case round =>
    obtain ⟨k, hk, rfl, kp, hno⟩ := hrel
    have HK := Lib.hid hk
    have KP := Lib.hid kp
    have HNO := Lib.hid hno
    clear hno hk
    by_cases hlt : k < l.length
    · have hlti : (k : Int) < l.length := by omega
      have HLT := Lib.hid hlt
      obtain ⟨g', cap', e, _, _, hg, hc⟩ := PI.out.no (KX.out.trans_no kp)
      cases e
      have CE := Lib.hid (hc k l[k] (List.getElem?_eq_getElem hlt))
      have NEXT : Hid (pkEq l[k] p = false → ∀ j (hj : j < l.length), j < k + 1 → pkEq l[j] p = false) := Lib.hid (fun h j hj hj2 => by
        by_cases e : j = k
        · subst e; exact h
        · exact HNO.out j hj (by omega))
      have HIT : Hid (pkEq l[k] p = true → hasB l p = true) := Lib.hid (fun h => hasB_iff.2 (by rw [← pkEq_iff.1 h]; exact List.getElem_mem hlt))
      have EL := EQ.out l[k]
      generalize l[k] = a at *
      have hk0 : ¬ (k : Int) < 0 := by omega
      have hkl : ¬ (k : Int) ≥ (l.length : Int) := by omega
      obtain ⟨c0, c1, c2, c3, c4⟩ := CE.out
      obtain ⟨d0, d1, d2, d3, d4⟩ := (PX.out.no kp).c
      clear hc kp hg
      go_upto_region 4 with fail
      refine wp_region_held_drew (S := fun y => (y.cell? ⟨g, k * 5, none⟩ = some (.int .u32 (a.src : Int)) ∧ y.cell? ⟨g, k * 5 + 1, none⟩ = some (.int .u32 (a.dst : Int)) ∧ y.cell? ⟨g, k * 5 + 2, none⟩ = some (.int .i64 a.proto) ∧ y.cell? ⟨g, k * 5 + 3, none⟩ = some (.int .i64 a.sport) ∧ y.cell? ⟨g, k * 5 + 4, none⟩ = some (.int .i64 a.dport)) ∧ y.cell? ⟨w.heap.size, 0, none⟩ = some (.int .u32 (p.src : Int)) ∧ y.cell? ⟨w.heap.size, 1, none⟩ = some (.int .u32 (p.dst : Int)) ∧ y.cell? ⟨w.heap.size, 2, none⟩ = some (.int .i64 p.proto) ∧ y.cell? ⟨w.heap.size, 3, none⟩ = some (.int .i64 p.sport) ∧ y.cell? ⟨w.heap.size, 4, none⟩ = some (.int .i64 p.dport)) (by kernel_rfl) ⟨⟨c0, c1, c2, c3, c4⟩, d0, d1, d2, d3, d4⟩ (fun hS => ?_)
      clear c0 c1 c2 c3 c4 d0 d1 d2 d3 d4
      have KD := Lib.hid (KP.out.trans_no (Kp.drew (w := wr)))
      refine tk 0 hS ?_
      refine tk 1 hS ?_
      refine tk 2 hS ?_
      refine tk 3 hS ?_
      refine tk 4 hS ?_
      obtain ⟨b, hb⟩ : ∃ b, pkEq a p = b := ⟨_, rfl⟩
      rw [hb] at EL
      refine tk 5 (v := .bool b) hS ?_
      refine wpAnyH_done (by kernel_rfl) ?_ _
      clear hS EL
      generalize wr.drew = Y at *
      cases b
      · have NX := Lib.hid (NEXT.out hb)
        clear hb
        go_wp2
        go_roundg (l.length - (k + 1))
        case measure => have := HK.out; have := HLT.out; omega
        case rel => exact ⟨k + 1, by have := HK.out; have := HLT.out; omega, by go_num, KD.out, NX.out⟩
      · have RET := Lib.hid (HIT.out hb)
        clear hb
        go_wp2
        go_ret
        exact ⟨by rw [RET.out]; rfl, KX.out.trans_no KD.out⟩
    · obtain rfl : k = l.length := by have := HK.out; omega
      have RET : Hid (hasB l p = false) := Lib.hid (by
        rw [Bool.eq_false_iff]
        intro h
        obtain ⟨j, hj, e⟩ := List.getElem_of_mem (hasB_iff.1 h)
        have := HNO.out j hj hj
        rw [e, pkEq_iff.2 rfl] at this
        cases this)
      have hge : ¬ (l.length : Int) < l.length := by omega
      clear kp hlt
      go_wp2
      go_ret
      exact ⟨by rw [RET.out]; rfl, KX.out.trans_no KP.out⟩

theorem NatAt.of {w w' : World} {p : Nat} {L L' : Lay} {cs : Array Value} {ts : List Tr} (h : NatAt w p L cs ts) (k : Kp (L.at p) w w') (f : Fresh (L.at p) (L'.at p) w) : NatAt w' p L' cs ts := by
  obtain ⟨ao, cp, h6, h1, h2, h3⟩ := h
  refine ⟨ao, cp, h6, h1, h2, ?_⟩
  rcases h3 with h0 | ⟨g, o, e, hg, hl, hc⟩
  · exact .inl h0
  refine .inr ⟨g, o, e, Nat.lt_of_lt_of_le hg k.size, fun h => ?_, fun j t hj => ?_⟩
  · rcases f _ h with h | h
    · exact hl h
    · omega
  have := hc j t hj
  have kk : ∀ z, w'.cell? ⟨g, z, none⟩ = w.cell? ⟨g, z, none⟩ := fun z => k.cell (a := ⟨g, z, none⟩) hg hl
  unfold TrAt at this ⊢
  simp only [kk]
  exact this
/-- The law's arguments in their boxes. -/
structure RlB (b : Nat) (cs : Array Value) (p q : Pkt) (y : World) : Prop where
  r : y.heap[b]? = some (.cells cs 41 (0, 0))
  p : PkB y (b + 1) p
  q : PkB y (b + 1 + 1) q
def RlS (b : Nat) (cs : Array Value) (p q : Pkt) (y : World) : Prop := y.heap[b]? = some (.cells cs 41 (0, 0)) ∧ (y.cell? ⟨b + 1, 0, none⟩ = some (.int .u32 (p.src : Int)) ∧ y.cell? ⟨b + 1, 1, none⟩ = some (.int .u32 (p.dst : Int)) ∧ y.cell? ⟨b + 1, 2, none⟩ = some (.int .i64 p.proto) ∧ y.cell? ⟨b + 1, 3, none⟩ = some (.int .i64 p.sport) ∧ y.cell? ⟨b + 1, 4, none⟩ = some (.int .i64 p.dport)) ∧ y.cell? ⟨b + 1 + 1, 0, none⟩ = some (.int .u32 (q.src : Int)) ∧ y.cell? ⟨b + 1 + 1, 1, none⟩ = some (.int .u32 (q.dst : Int)) ∧ y.cell? ⟨b + 1 + 1, 2, none⟩ = some (.int .i64 q.proto) ∧ y.cell? ⟨b + 1 + 1, 3, none⟩ = some (.int .i64 q.sport) ∧ y.cell? ⟨b + 1 + 1, 4, none⟩ = some (.int .i64 q.dport)
section
variable {b : Nat} {cs : Array Value} {p q : Pkt} {y y' : World}
theorem RlB.kp {A : Nat → Prop} (h : RlB b cs p q y) (k : Kp A y y') (a0 : ¬ A b) (a1 : ¬ A (b + 1)) (a2 : ¬ A (b + 1 + 1)) : RlB b cs p q y' :=
  ⟨(k.block _ (heap_lt h.r) a0).trans h.r, (k.block _ (heap_lt h.p) a1).trans h.p, (k.block _ (heap_lt h.q) a2).trans h.q⟩
theorem RlB.no (h : RlB b cs p q y) (k : Kp No y y') : RlB b cs p q y' := h.kp k (fun h => h) (fun h => h) (fun h => h)
theorem RlB.S (h : RlB b cs p q y) : RlS b cs p q y := ⟨h.r, h.p.c, h.q.c⟩
theorem RlB.new (w : World) (cs : Array Value) (p q : Pkt) : RlB w.heap.size cs p q (((w.alloc (.cells cs 41)).alloc (.cells #[.int .u32 (p.src : Int), .int .u32 (p.dst : Int), .int .i64 p.proto, .int .i64 p.sport, .int .i64 p.dport] 44)).alloc (.cells #[.int .u32 (q.src : Int), .int .u32 (q.dst : Int), .int .i64 q.proto, .int .i64 q.sport, .int .i64 q.dport] 44)) := by
  have h0 := heap_alloc_new w (.cells cs 41)
  have z0 : (w.alloc (.cells cs 41)).heap.size = w.heap.size + 1 := by simp
  generalize w.alloc (.cells cs 41) = X0 at *
  have h1 : PkB (X0.alloc (.cells #[.int .u32 (p.src : Int), .int .u32 (p.dst : Int), .int .i64 p.proto, .int .i64 p.sport, .int .i64 p.dport] 44)) X0.heap.size p := heap_alloc_new X0 _
  have k1 := Kp.alloc (w := X0) (.cells #[.int .u32 (p.src : Int), .int .u32 (p.dst : Int), .int .i64 p.proto, .int .i64 p.sport, .int .i64 p.dport] 44)
  have z1 : (X0.alloc (.cells #[.int .u32 (p.src : Int), .int .u32 (p.dst : Int), .int .i64 p.proto, .int .i64 p.sport, .int .i64 p.dport] 44)).heap.size = w.heap.size + 1 + 1 := by simp [z0]
  rw [z0] at h1
  generalize X0.alloc (.cells #[.int .u32 (p.src : Int), .int .u32 (p.dst : Int), .int .i64 p.proto, .int .i64 p.sport, .int .i64 p.dport] 44) = X1 at *
  have h2 : PkB (X1.alloc (.cells #[.int .u32 (q.src : Int), .int .u32 (q.dst : Int), .int .i64 q.proto, .int .i64 q.sport, .int .i64 q.dport] 44)) X1.heap.size q := heap_alloc_new X1 _
  have k2 := Kp.alloc (w := X1) (.cells #[.int .u32 (q.src : Int), .int .u32 (q.dst : Int), .int .i64 q.proto, .int .i64 q.sport, .int .i64 q.dport] 44)
  rw [z1] at h2
  exact ⟨((k1.trans_no k2).block _ (heap_lt h0) (fun h => h)).trans h0, h1.no k2, h2⟩
end
def RlT (b tb : Nat) (p q td : Pkt) (y : World) : Prop := (y.cell? ⟨b + 1, 0, none⟩ = some (.int .u32 (p.src : Int)) ∧ y.cell? ⟨b + 1, 1, none⟩ = some (.int .u32 (p.dst : Int)) ∧ y.cell? ⟨b + 1, 2, none⟩ = some (.int .i64 p.proto) ∧ y.cell? ⟨b + 1, 3, none⟩ = some (.int .i64 p.sport) ∧ y.cell? ⟨b + 1, 4, none⟩ = some (.int .i64 p.dport)) ∧ (y.cell? ⟨b + 1 + 1, 0, none⟩ = some (.int .u32 (q.src : Int)) ∧ y.cell? ⟨b + 1 + 1, 1, none⟩ = some (.int .u32 (q.dst : Int)) ∧ y.cell? ⟨b + 1 + 1, 2, none⟩ = some (.int .i64 q.proto) ∧ y.cell? ⟨b + 1 + 1, 3, none⟩ = some (.int .i64 q.sport) ∧ y.cell? ⟨b + 1 + 1, 4, none⟩ = some (.int .i64 q.dport)) ∧ y.cell? ⟨tb, 0, none⟩ = some (.int .u32 (td.src : Int)) ∧ y.cell? ⟨tb, 1, none⟩ = some (.int .u32 (td.dst : Int)) ∧ y.cell? ⟨tb, 2, none⟩ = some (.int .i64 td.proto) ∧ y.cell? ⟨tb, 3, none⟩ = some (.int .i64 td.sport) ∧ y.cell? ⟨tb, 4, none⟩ = some (.int .i64 td.dport)
/-- What the region that computes the concrete packets leaves. -/
def RlC (w4 : World) (td : Pkt) (fr : List Pkt) (s10 s11 : Value) (x : World) : Prop := ∃ tb, s10 = .pointer (some ⟨tb, 0, none⟩) ∧ PkB x tb td ∧ PksIn x s11 fr ∧ Kp No w4 x ∧ w4.heap.size ≤ tb ∧ (∀ b, s11.ownBlock = some b → w4.heap.size ≤ b)

set_option maxRecDepth 1000000 in
set_option maxHeartbeats 16000000 in
theorem TranslateRelates_walk (cs : Array Value) (p q : Pkt) (which : Int) (hp : p.in32) (hq : q.in32) {w : World} (ok : RtC w cs) (g : Gl w) :
    Calls Tryz.prog 3 #[.agg cs, pktV p, pktV q, .int .i64 which] w fun e w' => e = .returned (.bool true) ∧ Kp No w w' := by
  have R0 := Lib.hid (RlB.new w cs p q)
  have K0 : Hid (Kp No w (((w.alloc (.cells cs 41)).alloc (.cells #[.int .u32 (p.src : Int), .int .u32 (p.dst : Int), .int .i64 p.proto, .int .i64 p.sport, .int .i64 p.dport] 44)).alloc (.cells #[.int .u32 (q.src : Int), .int .u32 (q.dst : Int), .int .i64 q.proto, .int .i64 q.sport, .int .i64 q.dport] 44))) := Lib.hid (((Kp.alloc _).trans_no (Kp.alloc _)).trans_no (Kp.alloc _))
  have AW := Lib.hid (fun (y : World) (h : Gl y) => tawake_ok h)
  have VP := Lib.hid (fun (y : World) => ValidPacket_ok p y)
  have VQ := Lib.hid (fun (y : World) => ValidPacket_ok q y)
  have OK0 := Lib.hid ok
  have CSZ := Lib.hid ok.sz
  have G0 := Lib.hid g
  have HP := Lib.hid hp
  have HQ := Lib.hid hq
  obtain ⟨b1, hb1⟩ : ∃ b, vpB p = b := ⟨_, rfl⟩
  obtain ⟨b2, hb2⟩ : ∃ b, vpB q = b := ⟨_, rfl⟩
  rw [hb1] at VP
  rw [hb2] at VQ
  have HB1 := Lib.hid hb1
  have HB2 := Lib.hid hb2
  clear ok g hp hq hb1 hb2
  unfold pktV at *
  go_enter Tryz.func3, Tryz.ntmps3
  go_upto_region 1 with fail
  generalize ((w.alloc (.cells cs 41)).alloc (.cells #[.int .u32 (p.src : Int), .int .u32 (p.dst : Int), .int .i64 p.proto, .int .i64 p.sport, .int .i64 p.dport] 44)).alloc (.cells #[.int .u32 (q.src : Int), .int .u32 (q.dst : Int), .int .i64 q.proto, .int .i64 q.sport, .int .i64 q.dport] 44) = X at *
  go_wp2_with fail
  refine (AW.out X (G0.out.no K0.out)).mono ?_
  rintro e w1 ⟨rfl, k1⟩
  have K1 := Lib.hid (K0.out.trans_no k1)
  have R1 := Lib.hid (R0.out.no k1)
  clear k1 AW K0 R0
  obtain ⟨c0, c1, c2, c3, c4⟩ := R1.out.p.c
  go_wp2_with fail
  refine (VP.out _).mono ?_
  rintro e w2 ⟨rfl, k2⟩
  have K2 := Lib.hid (K1.out.trans_no k2)
  have R2 := Lib.hid (R1.out.no k2)
  clear k2 c0 c1 c2 c3 c4 VP
  cases b1
  · go_wp2
    go_ret
    exact ⟨rfl, K2.out⟩
  obtain ⟨c0, c1, c2, c3, c4⟩ := R2.out.q.c
  go_wp2_with fail
  refine (VQ.out _).mono ?_
  rintro e w3 ⟨rfl, k3⟩
  have K3 := Lib.hid (K2.out.trans_no k3)
  have R3 := Lib.hid (R2.out.no k3)
  clear k3 c0 c1 c2 c3 c4 VQ
  cases b2
  · go_wp2
    go_ret
    exact ⟨rfl, K3.out⟩
  have PO := Lib.hid (vpB_true HP.out HB1.out)
  have QO := Lib.hid (vpB_true HQ.out HB2.out)
  have OK3 := Lib.hid (OK0.out.no K3.out)
  have SM := Lib.hid (Small_any cs w3 OK3.out)
  go_wp2_with (first | (refine wpList_load_rt rfl _ rfl w.heap.size rfl cs CSZ.out R3.out.r ?_))
  refine SM.out.mono ?_
  rintro e w5 ⟨b, rfl, k5, hb⟩
  have HB := Lib.hid hb
  have K35 := Lib.hid k5
  have K5 := Lib.hid (K3.out.trans_no k5)
  have R5 := Lib.hid (R3.out.no k5)
  clear hb k5 SM
  cases b
  · go_wp2
    go_ret
    exact ⟨rfl, K5.out⟩
  obtain ⟨ts, acs, hts, hok, hle, hro, hat⟩ := router_lists OK3.out (HB.out rfl)
  have HTS := Lib.hid (And.intro hts hok)
  have HAT := Lib.hid hat
  have HLE := Lib.hid hle
  have HRO := Lib.hid hro
  have NEW := Lib.hid (HNew_ok w5)
  clear hts hok hle hro hat
  go_wp2_with fail
  refine NEW.out.mono ?_
  rintro e w4 ⟨pm, L, rfl, RR, k4, o4⟩
  have H0 := Lib.hid (hf_new G0.out K5.out RR k4 o4)
  have LO : Hid (∀ z, L.at pm z → w5.heap.size ≤ z) := Lib.hid o4
  have LH : Hid (∀ z, L.at pm z → z < w4.heap.size) := Lib.hid (fun z h => RR.lt _ h)
  have R4 := Lib.hid (R5.out.no k4)
  have K4 := Lib.hid (K5.out.trans_no k4)
  have NAL := Lib.hid (HAT.out w4 pm L (K35.out.trans_no k4) (fun k hk h => by have := o4 k h; have := K35.out.size; omega))
  clear RR k4 o4 NEW K1 K2 K3 R1 R2 R3
  obtain ⟨td, hto⟩ : ∃ t, t = pkDst ts p := ⟨_, rfl⟩
  obtain ⟨fr, hfr⟩ : ∃ t, t = pkSrc (acG acs) ts p := ⟨_, rfl⟩
  have HTO := Lib.hid hto
  have HFR := Lib.hid hfr
  have ND := Lib.hid (fun (y : World) (h : NatAt y pm L cs ts) => NDest_ok cs ts p y h)
  have NS := Lib.hid (fun (y : World) (h : NatAt y pm L cs ts) (h2 : AcAt y pm L cs acs) => NSource_ok cs CSZ.out ts HTS.out.2 acs HRO.out p HP.out y h h2)
  rw [← hto] at ND
  rw [← hfr] at NS
  unfold pktV at ND NS
  clear hto hfr
  go_upto_region 6 with fail
  go_cut [10, 11] from 32 to 119 (fun s10 s11 x => RlC w4 td fr s10 s11 x)
  case first =>
    have KD := Lib.hid (Kp.drew (w := w4))
    have RB := Lib.hid (R4.out.no KD.out)
    have NA := Lib.hid (NAL.out.1.no KD.out)
    have AA := Lib.hid (NAL.out.2.no KD.out)
    refine wp_region_held_drew (S := RlS w.heap.size cs p q) (by kernel_rfl) RB.out.S (fun hS => ?_)
    generalize w4.drew = Y0 at *
    have K0 : Hid (Kp No Y0 Y0) := Lib.hid (Kp.refl _ _)
    refine tk 0 (v := .agg cs) hS ?_ (hy := yields_load_rt (by kernel_rfl) _ rfl w.heap.size rfl cs CSZ.out (fun _ h => h.1))
    refine tk 1 hS ?_
    refine tk 3 (v := .agg cs) hS ?_ (hy := yields_load_rt (by kernel_rfl) _ rfl w.heap.size rfl cs CSZ.out (fun _ h => h.1))
    refine tk 4 hS ?_
    refine wpAnyH_ready (rs := [2, 6]) (by kernel_rfl) (by simp) ?_
    refine AllReadyH.cons rfl (fun K hK => ?_) (AllReadyH.cons rfl (fun K hK => ?_) AllReadyH.nil)
    · as_aux_lemma =>
        go_simp
        go_at_call 8
        refine (ND.out Y0 (NA.out.no K0.out)).mono ?_
        rintro e y1 ⟨rfl, k⟩
        have K1 := Lib.hid (K0.out.trans_no k)
        clear k
        go_wp2_with fail
        refine hK.out _ _ (RB.out.no K1.out).S (fun hHeld => ?_)
        clear hK K hS
        have hS := hHeld
        clear hHeld
        try simp only [Act.put, List.setIfInBounds_toArray, List.set_cons_zero, List.set_cons_succ]
        refine wpAnyH_ready (rs := [5, 6]) (by kernel_rfl) (by simp) ?_
        refine AllReadyH.cons rfl (fun K hK => ?_) (AllReadyH.cons rfl (fun K hK => ?_) AllReadyH.nil)
        · as_aux_lemma =>
            go_simp
            go_at_call 9
            refine (NS.out y1 (NA.out.no K1.out) (AA.out.no K1.out)).mono ?_
            rintro e y2 ⟨v, rfl, hv, k, ob⟩
            have K2 := Lib.hid (K1.out.trans_no k)
            have V2 := Lib.hid hv
            have OB := Lib.hid (fun b h => Nat.le_trans K1.out.size (ob b h))
            clear k hv ob
            go_wp2_with fail
            refine hK.out _ _ (RB.out.no K2.out).S (fun hHeld => ?_)
            clear hK K hS
            have hS := hHeld
            clear hHeld
            try simp only [Act.put, List.setIfInBounds_toArray, List.set_cons_zero, List.set_cons_succ]
            refine op1 6 (fun K hK => ?_)
            go_simp
            obtain ⟨tb, ht⟩ : ∃ t, t = y2.heap.size := ⟨_, rfl⟩
            have K3 := Lib.hid (K2.out.trans_no (Kp.alloc (w := y2) (.cells #[.int .u32 0, .int .u32 0, .int .i64 0, .int .i64 0, .int .i64 0] 44)))
            have T3 : Hid (PkB (y2.alloc (.cells #[.int .u32 0, .int .u32 0, .int .i64 0, .int .i64 0, .int .i64 0] 44)) tb pkz) := Lib.hid (by rw [ht]; exact heap_alloc_new _ _)
            have TB : Hid (Y0.heap.size ≤ tb) := Lib.hid (by rw [ht]; exact K2.out.size)
            have V3 := Lib.hid (V2.out.no (Kp.alloc (w := y2) (.cells #[.int .u32 0, .int .u32 0, .int .i64 0, .int .i64 0, .int .i64 0] 44)))
            have NV : Hid (∀ b, v.ownBlock = some b → b ≠ tb) := Lib.hid (fun b h => by have := V2.out.lt b h; omega)
            refine hK.out _ _ (RB.out.no K3.out).S (fun hHeld => ?_)
            clear hK K hS
            have hS := hHeld
            clear hHeld
            try simp only [Act.put, List.setIfInBounds_toArray, List.set_cons_zero, List.set_cons_succ]
            rw [← ht]
            generalize y2.alloc (.cells #[.int .u32 0, .int .u32 0, .int .i64 0, .int .i64 0, .int .i64 0] 44) = y3 at *
            clear ht
            refine op1 7 (fun K hK => ?_)
            rw [if_pos (by rfl)]
            have tz := T3.out
            unfold PkB at tz
            refine wp_store_row 44 _ _ rfl tb #[.int .u32 (td.src : Int), .int .u32 (td.dst : Int), .int .i64 td.proto, .int .i64 td.sport, .int .i64 td.dport] rfl rfl 44 _ tz (by kernel_rfl) (by kernel_rfl) (by kernel_rfl) ?_
            have k := Kp.setRow y3 tb #[.int .u32 (td.src : Int), .int .u32 (td.dst : Int), .int .i64 td.proto, .int .i64 td.sport, .int .i64 td.dport]
            have TF : Hid (PkB (y3.setRow tb #[.int .u32 (td.src : Int), .int .u32 (td.dst : Int), .int .i64 td.proto, .int .i64 td.sport, .int .i64 td.dport]) tb td) := Lib.hid (setRow_heap _ _ _ _ _ _ tz)
            have VF := Lib.hid (V3.out.kp k (fun b h e => NV.out b h e))
            have r0 := heap_lt RB.out.r
            have r1 := heap_lt RB.out.p
            have r2 := heap_lt RB.out.q
            have tb0 := TB.out
            have RF := Lib.hid ((RB.out.no K3.out).kp k (fun e => by omega) (fun e => by omega) (fun e => by omega))
            have KF := Lib.hid (K3.out.trans (A' := fun z => z = tb) (fun z e => .inr (by omega)) k)
            refine hK.out _ _ RF.out.S (fun hHeld => ?_)
            clear hK K hS
            have hS := hHeld
            clear hHeld
            try simp only [Act.put]
            clear tz k r0 r1 r2 tb0
            generalize y3.setRow tb #[.int .u32 (td.src : Int), .int .u32 (td.dst : Int), .int .i64 td.proto, .int .i64 td.sport, .int .i64 td.dport] = yf at *
            refine tk 8 hS ?_
            refine wpAnyH_done (by kernel_rfl) ?_ _
            clear hS
            go_wp2_with fail
            go_meet
            case rel => exact ⟨tb, rfl, TF.out, VF.out, KD.out.trans_no KF.out, by have := TB.out; have := KD.out.size; omega, fun b h => by have := OB.out b h; have := KD.out.size; omega⟩
        · as_aux_lemma =>
            go_simp
            obtain ⟨tb, ht⟩ : ∃ t, t = y1.heap.size := ⟨_, rfl⟩
            have K2 := Lib.hid (K1.out.trans_no (Kp.alloc (w := y1) (.cells #[.int .u32 0, .int .u32 0, .int .i64 0, .int .i64 0, .int .i64 0] 44)))
            have T2 : Hid (PkB (y1.alloc (.cells #[.int .u32 0, .int .u32 0, .int .i64 0, .int .i64 0, .int .i64 0] 44)) tb pkz) := Lib.hid (by rw [ht]; exact heap_alloc_new _ _)
            have TB : Hid (Y0.heap.size ≤ tb) := Lib.hid (by rw [ht]; exact K1.out.size)
            refine hK.out _ _ (RB.out.no K2.out).S (fun hHeld => ?_)
            clear hK K hS
            have hS := hHeld
            clear hHeld
            try simp only [Act.put, List.setIfInBounds_toArray, List.set_cons_zero, List.set_cons_succ]
            rw [← ht]
            generalize y1.alloc (.cells #[.int .u32 0, .int .u32 0, .int .i64 0, .int .i64 0, .int .i64 0] 44) = y2 at *
            clear ht
            refine op1 5 (fun K hK => ?_)
            go_simp
            go_at_call 9
            refine (NS.out y2 (NA.out.no K2.out) (AA.out.no K2.out)).mono ?_
            rintro e y3 ⟨v, rfl, hv, k, ob⟩
            have K3 := Lib.hid (K2.out.trans_no k)
            have V3 := Lib.hid hv
            have OB := Lib.hid (fun b h => Nat.le_trans K2.out.size (ob b h))
            have T3 := Lib.hid (T2.out.no k)
            have NV : Hid (∀ b, v.ownBlock = some b → b ≠ tb) := Lib.hid (fun b h => by have := ob b h; have := heap_lt T2.out; omega)
            clear k hv ob
            go_wp2_with fail
            refine hK.out _ _ (RB.out.no K3.out).S (fun hHeld => ?_)
            clear hK K hS
            have hS := hHeld
            clear hHeld
            try simp only [Act.put, List.setIfInBounds_toArray, List.set_cons_zero, List.set_cons_succ]
            refine op1 7 (fun K hK => ?_)
            rw [if_pos (by rfl)]
            have tz := T3.out
            unfold PkB at tz
            refine wp_store_row 44 _ _ rfl tb #[.int .u32 (td.src : Int), .int .u32 (td.dst : Int), .int .i64 td.proto, .int .i64 td.sport, .int .i64 td.dport] rfl rfl 44 _ tz (by kernel_rfl) (by kernel_rfl) (by kernel_rfl) ?_
            have k := Kp.setRow y3 tb #[.int .u32 (td.src : Int), .int .u32 (td.dst : Int), .int .i64 td.proto, .int .i64 td.sport, .int .i64 td.dport]
            have TF : Hid (PkB (y3.setRow tb #[.int .u32 (td.src : Int), .int .u32 (td.dst : Int), .int .i64 td.proto, .int .i64 td.sport, .int .i64 td.dport]) tb td) := Lib.hid (setRow_heap _ _ _ _ _ _ tz)
            have VF := Lib.hid (V3.out.kp k (fun b h e => NV.out b h e))
            have r0 := heap_lt RB.out.r
            have r1 := heap_lt RB.out.p
            have r2 := heap_lt RB.out.q
            have tb0 := TB.out
            have RF := Lib.hid ((RB.out.no K3.out).kp k (fun e => by omega) (fun e => by omega) (fun e => by omega))
            have KF := Lib.hid (K3.out.trans (A' := fun z => z = tb) (fun z e => .inr (by omega)) k)
            refine hK.out _ _ RF.out.S (fun hHeld => ?_)
            clear hK K hS
            have hS := hHeld
            clear hHeld
            try simp only [Act.put]
            clear tz k r0 r1 r2 tb0
            generalize y3.setRow tb #[.int .u32 (td.src : Int), .int .u32 (td.dst : Int), .int .i64 td.proto, .int .i64 td.sport, .int .i64 td.dport] = yf at *
            refine tk 8 hS ?_
            refine wpAnyH_done (by kernel_rfl) ?_ _
            clear hS
            go_wp2_with fail
            go_meet
            case rel => exact ⟨tb, rfl, TF.out, VF.out, KD.out.trans_no KF.out, by have := TB.out; have := KD.out.size; omega, fun b h => by have := OB.out b h; have := KD.out.size; omega⟩
    · as_aux_lemma =>
        go_simp
        obtain ⟨tb, ht⟩ : ∃ t, t = Y0.heap.size := ⟨_, rfl⟩
        have K1 := Lib.hid (K0.out.trans_no (Kp.alloc (w := Y0) (.cells #[.int .u32 0, .int .u32 0, .int .i64 0, .int .i64 0, .int .i64 0] 44)))
        have T1 : Hid (PkB (Y0.alloc (.cells #[.int .u32 0, .int .u32 0, .int .i64 0, .int .i64 0, .int .i64 0] 44)) tb pkz) := Lib.hid (by rw [ht]; exact heap_alloc_new _ _)
        have TB : Hid (Y0.heap.size ≤ tb) := Lib.hid (by rw [ht]; exact K0.out.size)
        refine hK.out _ _ (RB.out.no K1.out).S (fun hHeld => ?_)
        clear hK K hS
        have hS := hHeld
        clear hHeld
        try simp only [Act.put, List.setIfInBounds_toArray, List.set_cons_zero, List.set_cons_succ]
        rw [← ht]
        generalize Y0.alloc (.cells #[.int .u32 0, .int .u32 0, .int .i64 0, .int .i64 0, .int .i64 0] 44) = y1 at *
        clear ht
        refine op1 2 (fun K hK => ?_)
        go_simp
        go_at_call 8
        refine (ND.out y1 (NA.out.no K1.out)).mono ?_
        rintro e y2 ⟨rfl, k⟩
        have K2 := Lib.hid (K1.out.trans_no k)
        have T2 := Lib.hid (T1.out.no k)
        clear k
        go_wp2_with fail
        refine hK.out _ _ (RB.out.no K2.out).S (fun hHeld => ?_)
        clear hK K hS
        have hS := hHeld
        clear hHeld
        try simp only [Act.put, List.setIfInBounds_toArray, List.set_cons_zero, List.set_cons_succ]
        refine op1 5 (fun K hK => ?_)
        go_simp
        go_at_call 9
        refine (NS.out y2 (NA.out.no K2.out) (AA.out.no K2.out)).mono ?_
        rintro e y3 ⟨v, rfl, hv, k, ob⟩
        have K3 := Lib.hid (K2.out.trans_no k)
        have V3 := Lib.hid hv
        have OB := Lib.hid (fun b h => Nat.le_trans K2.out.size (ob b h))
        have T3 := Lib.hid (T2.out.no k)
        have NV : Hid (∀ b, v.ownBlock = some b → b ≠ tb) := Lib.hid (fun b h => by have := ob b h; have := heap_lt T2.out; omega)
        clear k hv ob
        go_wp2_with fail
        refine hK.out _ _ (RB.out.no K3.out).S (fun hHeld => ?_)
        clear hK K hS
        have hS := hHeld
        clear hHeld
        try simp only [Act.put, List.setIfInBounds_toArray, List.set_cons_zero, List.set_cons_succ]
        refine op1 7 (fun K hK => ?_)
        rw [if_pos (by rfl)]
        have tz := T3.out
        unfold PkB at tz
        refine wp_store_row 44 _ _ rfl tb #[.int .u32 (td.src : Int), .int .u32 (td.dst : Int), .int .i64 td.proto, .int .i64 td.sport, .int .i64 td.dport] rfl rfl 44 _ tz (by kernel_rfl) (by kernel_rfl) (by kernel_rfl) ?_
        have k := Kp.setRow y3 tb #[.int .u32 (td.src : Int), .int .u32 (td.dst : Int), .int .i64 td.proto, .int .i64 td.sport, .int .i64 td.dport]
        have TF : Hid (PkB (y3.setRow tb #[.int .u32 (td.src : Int), .int .u32 (td.dst : Int), .int .i64 td.proto, .int .i64 td.sport, .int .i64 td.dport]) tb td) := Lib.hid (setRow_heap _ _ _ _ _ _ tz)
        have VF := Lib.hid (V3.out.kp k (fun b h e => NV.out b h e))
        have r0 := heap_lt RB.out.r
        have r1 := heap_lt RB.out.p
        have r2 := heap_lt RB.out.q
        have tb0 := TB.out
        have RF := Lib.hid ((RB.out.no K3.out).kp k (fun e => by omega) (fun e => by omega) (fun e => by omega))
        have KF := Lib.hid (K3.out.trans (A' := fun z => z = tb) (fun z e => .inr (by omega)) k)
        refine hK.out _ _ RF.out.S (fun hHeld => ?_)
        clear hK K hS
        have hS := hHeld
        clear hHeld
        try simp only [Act.put]
        clear tz k r0 r1 r2 tb0
        generalize y3.setRow tb #[.int .u32 (td.src : Int), .int .u32 (td.dst : Int), .int .i64 td.proto, .int .i64 td.sport, .int .i64 td.dport] = yf at *
        refine tk 8 hS ?_
        refine wpAnyH_done (by kernel_rfl) ?_ _
        clear hS
        go_wp2_with fail
        go_meet
        case rel => exact ⟨tb, rfl, TF.out, VF.out, KD.out.trans_no KF.out, by have := TB.out; have := KD.out.size; omega, fun b h => by have := OB.out b h; have := KD.out.size; omega⟩
  case rest =>
  obtain ⟨tb, rfl, ht, hv, kw, tbl, vbl⟩ := hcut
  obtain ⟨vg, vc, rfl, vc1, vc2, vg1, _⟩ := id hv
  have PV := Lib.hid hv
  have PT0 := Lib.hid ht
  have RW := Lib.hid (R4.out.no kw)
  have KW := Lib.hid (K4.out.trans_no kw)
  have HW := Lib.hid (H0.out.no kw).rebase
  have NB := Lib.hid (NAL.out.1.no kw)
  have AB := Lib.hid (NAL.out.2.no kw)
  have hvg := vbl vg rfl
  have LT0 : Hid (w.heap.size < wc.heap.size ∧ w.heap.size + 1 < wc.heap.size ∧ w.heap.size + 1 + 1 < wc.heap.size ∧ tb < wc.heap.size ∧ vg < wc.heap.size) := Lib.hid ⟨heap_lt RW.out.r, heap_lt RW.out.p, heap_lt RW.out.q, heap_lt ht, vg1⟩
  have NL : Hid (¬ L.at pm w.heap.size ∧ ¬ L.at pm (w.heap.size + 1) ∧ ¬ L.at pm (w.heap.size + 1 + 1) ∧ ¬ L.at pm tb ∧ ¬ L.at pm vg) := Lib.hid (by
    have r0 := heap_lt R5.out.r
    have r1 := heap_lt R5.out.p
    have r2 := heap_lt R5.out.q
    refine ⟨fun h => ?_, fun h => ?_, fun h => ?_, fun h => ?_, fun h => ?_⟩
    · have := LO.out _ h; omega
    · have := LO.out _ h; omega
    · have := LO.out _ h; omega
    · have := LH.out _ h; omega
    · have := LH.out _ h; omega)
  have LO2 : Hid (∀ z, L.at pm z → w.heap.size ≤ z) := Lib.hid (fun z h => by have := LO.out z h; have := K5.out.size; omega)
  clear ht hv kw tbl vbl hvg vg1 H0 R4 K4 NAL LO LH R5 K5 HAT ND NS
  generalize wc = W at *
  have RF : Hid (∀ y, Kp (L.at pm) W.drew y → RlB w.heap.size cs p q y) := Lib.hid (fun y k => RW.out.kp ((Kp.drew (w := W)).no_trans k) NL.out.1 NL.out.2.1 NL.out.2.2.1)
  have TF : Hid (∀ y, Kp (L.at pm) W.drew y → PkB y tb td) := Lib.hid (fun y k => (((Kp.drew (w := W)).no_trans k).block _ (heap_lt PT0.out) NL.out.2.2.2.1).trans PT0.out)
  have VF : Hid (∀ y, Kp (L.at pm) W.drew y → PksIn y (.slice (some ⟨vg, 0, none⟩) fr.length vc) fr) := Lib.hid (fun y k => PV.out.kp ((Kp.drew (w := W)).no_trans k) (fun b e => by cases e; exact NL.out.2.2.2.2))
  have SF : Hid (∀ y, Kp (L.at pm) W.drew y → RlS w.heap.size cs p q y) := Lib.hid (fun y k => (RF.out y k).S)
  have H1 := Lib.hid (HW.out.no (Kp.drew (w := W))).rebase
  have KD := Lib.hid (KW.out.trans_no (Kp.drew (w := W)))
  have NBD := Lib.hid (NB.out.no (Kp.drew (w := W)))
  have ABD := Lib.hid (AB.out.no (Kp.drew (w := W)))
  go_upto_region 7 with fail
  refine wp_region_held_drew (S := RlS w.heap.size cs p q) (by kernel_rfl) (SF.out _ (Kp.refl _ _)) (fun hS => ?_)
  have LT1 : Hid (w.heap.size < W.drew.heap.size ∧ w.heap.size + 1 < W.drew.heap.size ∧ w.heap.size + 1 + 1 < W.drew.heap.size ∧ tb < W.drew.heap.size ∧ vg < W.drew.heap.size) := LT0
  have Y1S : Hid (w.heap.size ≤ W.drew.heap.size) := Lib.hid (Nat.le_of_lt LT0.out.1)
  clear LT0
  generalize W.drew = y1 at *
  clear HW RW PT0 PV KW NB AB
  refine tk 0 hS ?_
  refine tk 1 (v := .agg cs) hS ?_ (hy := yields_load_rt (by kernel_rfl) _ rfl w.heap.size rfl cs CSZ.out (fun _ h => h.1))
  refine tk 3 hS ?_
  refine tk 4 (v := .agg cs) hS ?_ (hy := yields_load_rt (by kernel_rfl) _ rfl w.heap.size rfl cs CSZ.out (fun _ h => h.1))
  have CC2 := Lib.hid (Dest_ok cs CSZ.out ts (acG acs) HTS.out.1 HTS.out.2 (fun t _ => acG_le HLE.out) H1.out.rep H1.out.qk H1.out.gl H1.out.off (NatAt.of NBD.out H1.out.sd.kp H1.out.sd.fr) (by omega))
  refine op1 2 (fun K hK => ?_)
  go_simp
  go_at_call 10
  refine CC2.out.mono ?_
  intro e y2 o
  obtain ⟨r2, M2, L2, rfl, nn2, g⟩ := H1.out.step o
  have H2 := Lib.hid g
  have NN2 := Lib.hid nn2
  clear o g CC2 nn2
  go_wp2_with fail
  refine hK.out _ _ (SF.out _ H2.out.sd.kp) (fun hHeld => ?_)
  clear hK K hS
  have hS := hHeld
  clear hHeld
  try simp only [Act.put, List.setIfInBounds_toArray, List.set_cons_zero, List.set_cons_succ]
  have CC3 := Lib.hid (Source_ok cs CSZ.out ts acs HLE.out HRO.out HTS.out.1 HTS.out.2 H2.out.rep H2.out.qk H2.out.gl H2.out.off (NatAt.of NBD.out H2.out.sd.kp H2.out.sd.fr) (AcAt.of ABD.out H2.out.sd.kp H2.out.sd.fr) (by omega))
  refine op1 5 (fun K hK => ?_)
  go_simp
  go_at_call 11
  refine CC3.out.mono ?_
  intro e y3 o
  obtain ⟨r3, M3, L3, rfl, nn3, g⟩ := H2.out.step o
  have H3 := Lib.hid g
  have NN3 := Lib.hid nn3
  clear o g CC3 nn3
  go_wp2_with fail
  refine hK.out _ _ (SF.out _ H3.out.sd.kp) (fun hHeld => ?_)
  clear hK K hS
  have hS := hHeld
  clear hHeld
  try simp only [Act.put, List.setIfInBounds_toArray, List.set_cons_zero, List.set_cons_succ]
  refine tk 6 hS ?_
  refine tk 7 hS ?_
  refine wpAnyH_done (by kernel_rfl) ?_ _
  clear hS
  have TDO : Hid td.ok := Lib.hid (by rw [HTO.out]; exact pkDst_ok ts HTS.out.2 PO.out)
  have FRP : Hid (0 < fr.length ∧ fr.length ≤ 8) := Lib.hid (by rw [HFR.out]; exact ⟨pkSrc_pos _ _ _, pkSrc_le _ _ HTS.out.2 _⟩)
  have FRO : Hid (∀ x, x ∈ fr → x.ok) := Lib.hid (fun x hx => by rw [HFR.out] at hx; exact pkSrc_ok (acG acs) ts HTS.out.2 PO.out x hx)
  have VT := Lib.hid (fun (y : World) => ValidPacket_ok td y)
  rw [TDO.out.vp] at VT
  have T3 := Lib.hid (TF.out _ H3.out.sd.kp)
  have V3 := Lib.hid (VF.out _ H3.out.sd.kp)
  have R3 := Lib.hid (RF.out _ H3.out.sd.kp)
  have VA := Lib.hid (ValidQ H3.out.rep H3.out.qk (f := r2) (List.Mem.tail _ (List.Mem.head _)))
  have VB := Lib.hid (ValidQ H3.out.rep H3.out.qk (f := r3) (List.Mem.head _))
  go_wp2_with fail
  refine VA.out.mono ?_
  rintro e y ⟨rfl, rfl⟩
  go_wp2_with fail
  refine VB.out.mono ?_
  rintro e y ⟨rfl, rfl⟩
  obtain ⟨c0, c1, c2, c3, c4⟩ := T3.out.c
  unfold pktV at VT
  go_wp2_with fail
  refine (VT.out _).mono ?_
  rintro e ya ⟨rfl, ka⟩
  clear c0 c1 c2 c3 c4 VA VB VT
  have Ha := Lib.hid (H3.out.no ka)
  have Ta := Lib.hid (T3.out.no ka)
  have Va := Lib.hid (V3.out.no ka)
  have Ra := Lib.hid (R3.out.no ka)
  clear ka T3 V3 R3 H3
  have hne : ¬ ((fr.length : Int) = 0) := by have := FRP.out; omega
  have hli : (fr.length : Int) ≤ 8 := by have := FRP.out; omega
  have PK := Lib.hid (fun (y : World) => Pick_ok which fr.length y FRP.out.1 (by have := FRP.out; omega))
  have hpk := pick_lt which (n := fr.length) FRP.out.1
  generalize pick which fr.length = i at *
  go_wp2_with fail
  refine (PK.out _).mono ?_
  rintro e y ⟨rfl, rfl⟩
  obtain ⟨vg', vc', e, _, _, _, hcells⟩ := Va.out
  cases e
  have XC := Lib.hid (hcells i fr[i] (List.getElem?_eq_getElem hpk))
  have XM : Hid (fr[i] ∈ fr) := Lib.hid (List.getElem_mem hpk)
  generalize fr[i] = x at *
  have hi0 : ¬ (i : Int) < 0 := by omega
  have hil : ¬ (i : Int) ≥ (fr.length : Int) := by omega
  have hli2 : (i : Int) < (fr.length : Int) := by omega
  obtain ⟨c0, c1, c2, c3, c4⟩ := XC.out
  clear hcells PK hpk XC
  go_upto_region 11 with fail
  clear c0 c1 c2 c3 c4 hi0 hil hli2 hne
  have kb := Kp.alloc (w := ya) (.cells #[.int .u32 (x.src : Int), .int .u32 (x.dst : Int), .int .i64 x.proto, .int .i64 x.sport, .int .i64 x.dport] 44)
  have Xb : Hid (PkB (ya.alloc (.cells #[.int .u32 (x.src : Int), .int .u32 (x.dst : Int), .int .i64 x.proto, .int .i64 x.sport, .int .i64 x.dport] 44)) ya.heap.size x) := Lib.hid (heap_alloc_new _ _)
  have Hb := Lib.hid (Ha.out.no kb)
  have Tb := Lib.hid (Ta.out.no kb)
  have Vb := Lib.hid (Va.out.no kb)
  have Rb := Lib.hid (Ra.out.no kb)
  generalize ya.heap.size = xb at *
  generalize ya.alloc (.cells #[.int .u32 (x.src : Int), .int .u32 (x.dst : Int), .int .i64 x.proto, .int .i64 x.sport, .int .i64 x.dport] 44) = yb at *
  clear kb Ha Ta Va Ra
  have ENC : Hid (∀ (a b : Pkt), a.in32 → b.in32 → ∀ y : World, Gl y → Calls Tryz.prog 15 #[.slice none 0 0, pktV a, pktV b] y (EncPost y (encF (fun _ => false) a b))) := Lib.hid (fun a b ha hb y h => by
    have e : dnF [] = fun _ => false := by funext v; simp [dnF]
    have := Encode_ok [] a b ha hb h (dv := .slice none 0 0) ⟨none, 0, rfl, rfl, .inl rfl⟩ (by simp)
    rw [e] at this
    exact this)
  unfold pktV at ENC
  have DT : Hid ((dstF (ts.map (Tr.ent (acG acs)))) (asg (gL (encF (fun _ => false) p td))) = true) := Lib.hid ((dst_enc (acG acs) ts HTS.out.2 PO.out TDO.out).2 HTO.out)
  have SX : Hid ((srcF (ts.map (Tr.ent (acG acs)))) (asg (gL (encF (fun _ => false) p x))) = true) := Lib.hid ((src_enc (acG acs) ts HTS.out.2 PO.out (FRO.out x XM.out)).2 (by rw [← HFR.out]; exact XM.out))
  have XI : Hid x.in32 := Lib.hid (FRO.out x XM.out).in32
  obtain ⟨c0, c1, c2, c3, c4⟩ := Rb.out.p.c
  obtain ⟨d0, d1, d2, d3, d4⟩ := Tb.out.c
  go_wp2_with fail
  refine (ENC.out p td HP.out TDO.out.in32 yb Hb.out.gl).mono ?_
  rintro e yc ⟨ga, rfl, row, k⟩
  have EV := Lib.hid (EvalQ (Hb.out.no k).rep (Hb.out.no k).qk (f := r2) (List.Mem.tail _ (List.Mem.head _)) (bools_row row))
  rw [DT.out] at EV
  have Hc := Lib.hid (Hb.out.no k)
  have Xc := Lib.hid (Xb.out.no k)
  have Rc := Lib.hid (Rb.out.no k)
  have Tc := Lib.hid (Tb.out.no k)
  have Vc := Lib.hid (Vb.out.no k)
  clear c0 c1 c2 c3 c4 d0 d1 d2 d3 d4 row k Hb Xb Rb Tb Vb
  go_wp2_with fail
  refine EV.out.mono ?_
  rintro e yd ⟨rfl, k⟩
  have Hd := Lib.hid (Hc.out.no k)
  have Xd := Lib.hid (Xc.out.no k)
  have Rd := Lib.hid (Rc.out.no k)
  have Td := Lib.hid (Tc.out.no k)
  have Vd := Lib.hid (Vc.out.no k)
  clear k Hc Xc Rc Tc Vc EV
  obtain ⟨c0, c1, c2, c3, c4⟩ := Rd.out.p.c
  obtain ⟨d0, d1, d2, d3, d4⟩ := Xd.out.c
  go_wp2_with fail
  refine (ENC.out p x HP.out XI.out yd Hd.out.gl).mono ?_
  rintro e ye ⟨gb, rfl, row, k⟩
  have EV := Lib.hid (EvalQ (Hd.out.no k).rep (Hd.out.no k).qk (f := r3) (List.Mem.head _) (bools_row row))
  rw [SX.out] at EV
  have He := Lib.hid (Hd.out.no k)
  have Re := Lib.hid (Rd.out.no k)
  have Te := Lib.hid (Td.out.no k)
  have Ve := Lib.hid (Vd.out.no k)
  clear c0 c1 c2 c3 c4 d0 d1 d2 d3 d4 row k Hd Xd Rd Td Vd
  go_wp2_with fail
  refine EV.out.mono ?_
  rintro e yf ⟨rfl, k⟩
  have Hf' := Lib.hid (He.out.no k)
  have Rf := Lib.hid (Re.out.no k)
  have Tf := Lib.hid (Te.out.no k)
  have Vf := Lib.hid (Ve.out.no k)
  clear k He Re Te Ve EV
  obtain ⟨c0, c1, c2, c3, c4⟩ := Rf.out.p.c
  obtain ⟨d0, d1, d2, d3, d4⟩ := Rf.out.q.c
  go_wp2_with fail
  refine (ENC.out p q HP.out HQ.out yf Hf'.out.gl).mono ?_
  rintro e yg ⟨gc, rfl, row, k⟩
  have KFIN := Lib.hid ((Hf'.out.no k).kpNo KD.out LO2.out)
  have Hg := Lib.hid (Hf'.out.no k).rebase
  have Rg := Lib.hid (Rf.out.no k)
  have Tg := Lib.hid (Tf.out.no k)
  have Vg := Lib.hid (Vf.out.no k)
  have ROW := Lib.hid row
  have NG : Hid (¬ L3.at pm w.heap.size ∧ ¬ L3.at pm (w.heap.size + 1) ∧ ¬ L3.at pm (w.heap.size + 1 + 1) ∧ ¬ L3.at pm tb ∧ ¬ L3.at pm vg ∧ ¬ L3.at pm gc) := Lib.hid (by
    have key : ∀ z, ¬ L.at pm z → z < y1.heap.size → ¬ L3.at pm z := fun z h1 h2 h => by
      rcases Hf'.out.sd.fr _ h with h | h
      · exact h1 h
      · omega
    obtain ⟨t0, t1, t2, t3, t4⟩ := LT1.out
    obtain ⟨n0, n1, n2, n3, n4⟩ := NL.out
    refine ⟨key _ n0 t0, key _ n1 t1, key _ n2 t2, key _ n3 t3, key _ n4 t4, fun h => ?_⟩
    have h1 := Hf'.out.rep.lt _ h
    have h2 := (ROW.out.lt gc rfl).1
    omega)
  have FRS := Lib.hid Hf'.out.sd.fr
  clear c0 c1 c2 c3 c4 d0 d1 d2 d3 d4 row k Hf' Rf Tf Vf DT SX XI XM RF TF VF SF ENC NBD ABD
  have RF : Hid (∀ y, Kp (L3.at pm) yg.drew y → RlB w.heap.size cs p q y) := Lib.hid (fun y k => Rg.out.kp ((Kp.drew (w := yg)).no_trans k) NG.out.1 NG.out.2.1 NG.out.2.2.1)
  have TF : Hid (∀ y, Kp (L3.at pm) yg.drew y → PkB y tb td) := Lib.hid (fun y k => (((Kp.drew (w := yg)).no_trans k).block _ (heap_lt Tg.out) NG.out.2.2.2.1).trans Tg.out)
  have VF : Hid (∀ y, Kp (L3.at pm) yg.drew y → PksIn y (.slice (some ⟨vg, 0, none⟩) fr.length vc) fr) := Lib.hid (fun y k => Vg.out.kp ((Kp.drew (w := yg)).no_trans k) (fun b e => by cases e; exact NG.out.2.2.2.2.1))
  have BF : Hid (∀ y, Kp (L3.at pm) yg.drew y → Bools y (.slice (some ⟨gc, 0, none⟩) 220 220) (gL (encF (fun _ => false) p q))) := Lib.hid (fun y k => bools_row (ownsRow_kp ROW.out ((Kp.drew (w := yg)).no_trans k) (fun b e => by cases e; exact NG.out.2.2.2.2.2)))
  have SF : Hid (∀ y, Kp (L3.at pm) yg.drew y → RlT w.heap.size tb p q td y) := Lib.hid (fun y k => ⟨(RF.out y k).p.c, (RF.out y k).q.c, (TF.out y k).c⟩)
  obtain ⟨b1, hb1⟩ : ∃ b, pkEq q td = b := ⟨_, rfl⟩
  obtain ⟨b2, hb2⟩ : ∃ b, hasB fr q = b := ⟨_, rfl⟩
  obtain ⟨b3, hb3⟩ : ∃ b, pkEq p q = b := ⟨_, rfl⟩
  have E1 : Hid ((dstF (ts.map (Tr.ent (acG acs)))) (asg (gL (encF (fun _ => false) p q))) = b1) := Lib.hid (by
    rw [← hb1, Bool.eq_iff_iff, pkEq_iff, HTO.out]
    exact dst_enc (acG acs) ts HTS.out.2 PO.out QO.out)
  have E2 : Hid ((srcF (ts.map (Tr.ent (acG acs)))) (asg (gL (encF (fun _ => false) p q))) = b2) := Lib.hid (by
    rw [← hb2, Bool.eq_iff_iff, hasB_iff, HFR.out]
    exact src_enc (acG acs) ts HTS.out.2 PO.out QO.out)
  have E3 : Hid ((fun a => smR (exW []) a 104) (asg (gL (encF (fun _ => false) p q))) = b3) := Lib.hid (by
    rw [← hb3, Bool.eq_iff_iff, pkEq_iff]
    exact (sam_all PO.out QO.out).trans eq_comm)
  have EQ1 := eqlPk q td
  have EQ3 := eqlPk p q
  have HAS := Lib.hid (fun (y : World) (k : Kp (L3.at pm) yg.drew y) => has_ok fr q _ y (VF.out y k))
  rw [hb1] at EQ1
  rw [hb3] at EQ3
  rw [hb2] at HAS
  unfold pktV at EQ1 EQ3 HAS
  have H4 := Lib.hid (Hg.out.no (Kp.drew (w := yg))).rebase
  have KD2 := Lib.hid (KFIN.out.trans_no (Kp.drew (w := yg)))
  have LO3 : Hid (∀ z, L3.at pm z → w.heap.size ≤ z) := Lib.hid (fun z h => by
    rcases FRS.out _ h with h | h
    · exact LO2.out z h
    · have := Y1S.out
      omega)
  clear hb1 hb2 hb3 Hg Rg Tg Vg ROW RF TF VF NG KFIN
  go_upto_region 14 with fail
  refine wp_region_held_drew (S := RlT w.heap.size tb p q td) (by kernel_rfl) (SF.out _ (Kp.refl _ _)) (fun hS => ?_)
  generalize yg.drew = y4 at *

  refine tk 0 hS ?_
  refine tk 1 hS ?_
  refine tk 2 hS ?_
  refine tk 4 hS ?_
  refine tk 5 hS ?_
  refine tk 6 (v := .bool b1) hS ?_
  have CC5 := Lib.hid (EvalQ H4.out.rep H4.out.qk (List.Mem.tail _ (List.Mem.head _)) (BF.out _ H4.out.sd.kp))
  rw [E1.out] at CC5
  refine op1 3 (fun K hK => ?_)
  go_simp
  go_at_call 14
  refine CC5.out.mono ?_
  rintro e y5 ⟨rfl, k⟩
  have H5 := Lib.hid (H4.out.no k)
  clear k CC5
  go_wp2_with fail
  refine hK.out _ _ (SF.out _ H5.out.sd.kp) (fun hHeld => ?_)
  clear hK K hS
  have hS := hHeld
  clear hHeld
  try simp only [Act.put, List.setIfInBounds_toArray, List.set_cons_zero, List.set_cons_succ]
  refine tk 7 (v := .bool true) hS ?_ (hy := by refine Or.inl ⟨by rfl, fun w hSw => ?_⟩; go_simp)
  refine tk 8 hS ?_
  refine tk 9 hS ?_
  refine tk 10 hS ?_
  refine tk 11 hS ?_
  refine tk 13 hS ?_
  refine tk 14 hS ?_
  as_aux_lemma =>
    have CC6 := Lib.hid (EvalQ H5.out.rep H5.out.qk (List.Mem.head _) (BF.out _ H5.out.sd.kp))
    rw [E2.out] at CC6
    refine op1 12 (fun K hK => ?_)
    go_simp
    go_at_call 14
    refine CC6.out.mono ?_
    rintro e y6 ⟨rfl, k⟩
    have H6 := Lib.hid (H5.out.no k)
    clear k CC6
    go_wp2_with fail
    refine hK.out _ _ (SF.out _ H6.out.sd.kp) (fun hHeld => ?_)
    clear hK K hS
    have hS := hHeld
    clear hHeld
    try simp only [Act.put, List.setIfInBounds_toArray, List.set_cons_zero, List.set_cons_succ]
    refine op1 15 (fun K hK => ?_)
    go_simp
    go_at_call 16
    refine (HAS.out _ H6.out.sd.kp).mono ?_
    rintro e y7 ⟨rfl, k⟩
    have H7 := Lib.hid (H6.out.no k)
    clear k
    go_wp2_with fail
    refine hK.out _ _ (SF.out _ H7.out.sd.kp) (fun hHeld => ?_)
    clear hK K hS
    have hS := hHeld
    clear hHeld
    try simp only [Act.put, List.setIfInBounds_toArray, List.set_cons_zero, List.set_cons_succ]
    refine tk 16 (v := .bool true) hS ?_ (hy := by refine Or.inl ⟨by rfl, fun w hSw => ?_⟩; go_simp)
    refine tk 17 hS ?_
    refine tk 18 hS ?_
    refine tk 19 hS ?_
    refine tk 20 hS ?_
    refine tk 22 hS ?_
    refine tk 24 hS ?_
    refine tk 25 hS ?_
    refine tk 26 (v := .bool b3) hS ?_
    as_aux_lemma =>
      have CC8 := Lib.hid (TId_ok H7.out.rep H7.out.qk H7.out.gl H7.out.off (by omega))
      refine op1 21 (fun K hK => ?_)
      go_simp
      go_at_call 17
      refine CC8.out.mono ?_
      intro e y8 o
      obtain ⟨r8, M8, L8, rfl, nn8, g⟩ := H7.out.step o
      have H8 := Lib.hid g
      have NN8 := Lib.hid nn8
      clear o g CC8 nn8
      go_wp2_with fail
      refine hK.out _ _ (SF.out _ H8.out.sd.kp) (fun hHeld => ?_)
      clear hK K hS
      have hS := hHeld
      clear hHeld
      try simp only [Act.put, List.setIfInBounds_toArray, List.set_cons_zero, List.set_cons_succ]
      have CC9 := Lib.hid (EvalQ H8.out.rep H8.out.qk (List.Mem.head _) (BF.out _ H8.out.sd.kp))
      rw [E3.out] at CC9
      refine op1 23 (fun K hK => ?_)
      go_simp
      go_at_call 14
      refine CC9.out.mono ?_
      rintro e y9 ⟨rfl, k⟩
      have H9 := Lib.hid (H8.out.no k)
      clear k CC9
      go_wp2_with fail
      refine hK.out _ _ (SF.out _ H9.out.sd.kp) (fun hHeld => ?_)
      clear hK K hS
      have hS := hHeld
      clear hHeld
      try simp only [Act.put, List.setIfInBounds_toArray, List.set_cons_zero, List.set_cons_succ]
      refine tk 27 (v := .bool true) hS ?_ (hy := by refine Or.inl ⟨by rfl, fun w hSw => ?_⟩; go_simp)
      refine tk 28 hS ?_
      refine tk 29 hS ?_
      refine wpAnyH_done (by kernel_rfl) ?_ _
      clear hS
      have KF := Lib.hid (H9.out.kpNo KD2.out LO3.out)
      go_wp2_with fail
      go_ret
      exact ⟨rfl, KF.out⟩

end Go.Proofs.YtaldeffpkcbpeaaGreatDoor
