/-
  Walks: the law HeaderSames.
-/
import Derived.Test.YtgglkldoclejaaaDoorHsm
import Derived.Test.YtgglkldoclejaaaDoorSave
import Derived.Deep.RegionHeld3
import Derived.Deep.CutBlock
import Derived.BigQuiet
namespace Go.Proofs.YtgglkldoclejaaaDoor
open Go.RowKit

theorem PkAt.of_row {x : World} {b : Nat} {q : Pkt} {t : TypeId} (h : x.heap[b]? = some (.cells #[.int .u32 (q.src : Int), .int .u32 (q.dst : Int), .int .i64 q.proto, .int .i64 q.sport, .int .i64 q.dport] t (0, 0))) : PkAt x b q :=
  ⟨by rw [cell_of_row _ _ _ _ _ _ h]; rfl, by rw [cell_of_row _ _ _ _ _ _ h]; rfl, by rw [cell_of_row _ _ _ _ _ _ h]; rfl, by rw [cell_of_row _ _ _ _ _ _ h]; rfl, by rw [cell_of_row _ _ _ _ _ _ h]; rfl⟩

/-- Two packets in memory, of which the second may be changed. -/
structure TwS (w : World) (p q : Pkt) (x : World) : Prop where
  t : Two2 w w.heap.size (w.heap.size + 1) p q x
  bq : x.heap[w.heap.size + 1]? = some (.cells #[.int .u32 (q.src : Int), .int .u32 (q.dst : Int), .int .i64 q.proto, .int .i64 q.sport, .int .i64 q.dport] 29 (0, 0))
section
variable {w : World} {p q : Pkt} {x y : World}
theorem TwS.gl (t : TwS w p q x) : Gl x := t.t.gl
theorem TwS.kp (t : TwS w p q x) : Kp No w x := t.t.kp
theorem TwS.pa (t : TwS w p q x) : PkAt x w.heap.size p := t.t.pa
theorem TwS.pb (t : TwS w p q x) : PkAt x (w.heap.size + 1) q := t.t.pb
theorem TwS.no (t : TwS w p q x) (k : Kp No x y) : TwS w p q y := ⟨t.t.no k, by rw [k.block _ (heap_lt t.bq) (fun h => h)]; exact t.bq⟩
theorem TwS.mgr {A : Nat → Prop} {N : Nat} (t : TwS w p q x) (k : Kp A x y) (hA : ∀ b, A b → N ≤ b) (h1 : w.heap.size + 1 < N) : TwS w p q y :=
  ⟨t.t.mgr k hA (by omega) (by omega) (by omega), by rw [k.block _ (heap_lt t.bq) (fun h => by have := hA _ h; omega)]; exact t.bq⟩
theorem TwS.new (g : Gl w) (p q : Pkt) : TwS w p q ((w.alloc (.cells #[.int .u32 (p.src : Int), .int .u32 (p.dst : Int), .int .i64 p.proto, .int .i64 p.sport, .int .i64 p.dport] 29)).alloc (.cells #[.int .u32 (q.src : Int), .int .u32 (q.dst : Int), .int .i64 q.proto, .int .i64 q.sport, .int .i64 q.dport] 29)) := by
  refine ⟨Two2.new2 g p q, ?_⟩
  have h := heap_alloc_new (w.alloc (.cells #[.int .u32 (p.src : Int), .int .u32 (p.dst : Int), .int .i64 p.proto, .int .i64 p.sport, .int .i64 p.dport] 29)) (.cells #[.int .u32 (q.src : Int), .int .u32 (q.dst : Int), .int .i64 q.proto, .int .i64 q.sport, .int .i64 q.dport] 29)
  rw [show (w.alloc (.cells #[.int .u32 (p.src : Int), .int .u32 (p.dst : Int), .int .i64 p.proto, .int .i64 p.sport, .int .i64 p.dport] 29)).heap.size = w.heap.size + 1 by simp] at h
  exact h
theorem TwS.frz (t : TwS w p q x) (i : Nat) : x.frozen? ⟨w.heap.size + 1, i, none⟩ = false := by simp [World.frozen?, t.bq]
theorem TwS.set (t : TwS w p q x) (i : Nat) (v : Value) (q' : Pkt) (e : (x.setCell ⟨w.heap.size + 1, i, none⟩ v).heap[w.heap.size + 1]? = some (.cells #[.int .u32 (q'.src : Int), .int .u32 (q'.dst : Int), .int .i64 q'.proto, .int .i64 q'.sport, .int .i64 q'.dport] 29 (0, 0))) : TwS w p q' (x.setCell ⟨w.heap.size + 1, i, none⟩ v) := by
  have k := Kp.setCell (w := x) ⟨w.heap.size + 1, i, none⟩ v
  exact ⟨⟨t.kp.trans (A' := fun b => b = w.heap.size + 1) (fun b e => .inr (by omega)) (k.mono (fun _ _ e => e)), t.gl.kp k (fun e => by have := t.t.glw.lt; have : 0 = w.heap.size + 1 := e; omega), t.pa.kp k (fun e => by have : w.heap.size = w.heap.size + 1 := e; omega), PkAt.of_row e, t.t.glw⟩, e⟩
end

/-- What holds between the changes of the second packet. -/
def SamR (w : World) (p : Pkt) (pm : Nat) (L : Lay) (x : World) : Prop := ∃ q, q.ok ∧ TwS w p q x ∧ Hf x pm L 220 2 x (Mgr.new 220) L []
theorem Hf.setq {w x : World} {pm : Nat} {L : Lay} {p q' : Pkt} {i : Nat} {v : Value} (h : Hf x pm L 220 2 x (Mgr.new 220) L []) (o : ∀ b, L.at pm b → w.heap.size + 1 < b) (t : TwS w p q' (x.setCell ⟨w.heap.size + 1, i, none⟩ v)) : Hf (x.setCell ⟨w.heap.size + 1, i, none⟩ v) pm L 220 2 (x.setCell ⟨w.heap.size + 1, i, none⟩ v) (Mgr.new 220) L [] :=
  Hf.start (h.rep.kp (Kp.setCell _ _) (fun b e hx => by have := o b hx; have : b = w.heap.size + 1 := e; omega)) (Qk.new 220) t.gl h.off
theorem SamR.set0 {w x : World} {pm : Nat} {L : Lay} {p q : Pkt} (hp : p.ok) (hq : q.ok) (t : TwS w p q x) (h : Hf x pm L 220 2 x (Mgr.new 220) L []) (o : ∀ b, L.at pm b → w.heap.size + 1 < b) : SamR w p pm L (x.setCell ⟨w.heap.size + 1, 0, none⟩ (.int .u32 (p.src : Int))) := by
  have t' : TwS w p { q with src := p.src } (x.setCell ⟨w.heap.size + 1, 0, none⟩ (.int .u32 (p.src : Int))) := t.set 0 _ _ (by rw [setCell_heap t.bq]; rfl)
  exact ⟨{ q with src := p.src }, ⟨hp.h0, hq.h1, hq.h2, hq.h3, hq.h4⟩, t', h.setq o t'⟩
theorem SamR.set1 {w x : World} {pm : Nat} {L : Lay} {p q : Pkt} (hp : p.ok) (hq : q.ok) (t : TwS w p q x) (h : Hf x pm L 220 2 x (Mgr.new 220) L []) (o : ∀ b, L.at pm b → w.heap.size + 1 < b) : SamR w p pm L (x.setCell ⟨w.heap.size + 1, 1, none⟩ (.int .u32 (p.dst : Int))) := by
  have t' : TwS w p { q with dst := p.dst } (x.setCell ⟨w.heap.size + 1, 1, none⟩ (.int .u32 (p.dst : Int))) := t.set 1 _ _ (by rw [setCell_heap t.bq]; rfl)
  exact ⟨{ q with dst := p.dst }, ⟨hq.h0, hp.h1, hq.h2, hq.h3, hq.h4⟩, t', h.setq o t'⟩
theorem SamR.set2 {w x : World} {pm : Nat} {L : Lay} {p q : Pkt} (hp : p.ok) (hq : q.ok) (t : TwS w p q x) (h : Hf x pm L 220 2 x (Mgr.new 220) L []) (o : ∀ b, L.at pm b → w.heap.size + 1 < b) : SamR w p pm L (x.setCell ⟨w.heap.size + 1, 2, none⟩ (.int .i64 p.proto)) := by
  have t' : TwS w p { q with proto := p.proto } (x.setCell ⟨w.heap.size + 1, 2, none⟩ (.int .i64 p.proto)) := t.set 2 _ _ (by rw [setCell_heap t.bq]; rfl)
  exact ⟨{ q with proto := p.proto }, ⟨hq.h0, hq.h1, hp.h2, hq.h3, hq.h4⟩, t', h.setq o t'⟩
theorem SamR.set3 {w x : World} {pm : Nat} {L : Lay} {p q : Pkt} (hp : p.ok) (hq : q.ok) (t : TwS w p q x) (h : Hf x pm L 220 2 x (Mgr.new 220) L []) (o : ∀ b, L.at pm b → w.heap.size + 1 < b) : SamR w p pm L (x.setCell ⟨w.heap.size + 1, 3, none⟩ (.int .i64 p.sport)) := by
  have t' : TwS w p { q with sport := p.sport } (x.setCell ⟨w.heap.size + 1, 3, none⟩ (.int .i64 p.sport)) := t.set 3 _ _ (by rw [setCell_heap t.bq]; rfl)
  exact ⟨{ q with sport := p.sport }, ⟨hq.h0, hq.h1, hq.h2, hp.h3, hq.h4⟩, t', h.setq o t'⟩
theorem SamR.set4 {w x : World} {pm : Nat} {L : Lay} {p q : Pkt} (hp : p.ok) (hq : q.ok) (t : TwS w p q x) (h : Hf x pm L 220 2 x (Mgr.new 220) L []) (o : ∀ b, L.at pm b → w.heap.size + 1 < b) : SamR w p pm L (x.setCell ⟨w.heap.size + 1, 4, none⟩ (.int .i64 p.dport)) := by
  have t' : TwS w p { q with dport := p.dport } (x.setCell ⟨w.heap.size + 1, 4, none⟩ (.int .i64 p.dport)) := t.set 4 _ _ (by rw [setCell_heap t.bq]; rfl)
  exact ⟨{ q with dport := p.dport }, ⟨hq.h0, hq.h1, hq.h2, hq.h3, hp.h4⟩, t', h.setq o t'⟩

/-- The packets agree in the listed fields. -/
def wtB (p q : Pkt) (l : List Int) : Bool := l.all fun x => !(decide (0 ≤ x ∧ x < 5)) || (p.f x.toNat == q.f x.toNat)
theorem wtB_succ (p q : Pkt) (l : List Int) {k : Nat} (hk : k < l.length) : wtB p q (l.take (k + 1)) = (wtB p q (l.take k) && (!(decide (0 ≤ l.getD k 0 ∧ l.getD k 0 < 5)) || (p.f (l.getD k 0).toNat == q.f (l.getD k 0).toNat))) := by
  have e : l.take (k + 1) = l.take k ++ [l.getD k 0] := by rw [List.take_succ_eq_append_getElem hk]; simp [hk]
  unfold wtB
  rw [e, List.all_append]; simp only [List.all_cons, List.all_nil, Bool.and_true]
theorem bits_eq {n x y : Nat} (hx : x < 2 ^ n) (hy : y < 2 ^ n) (h : ∀ i, i < n → x.testBit i = y.testBit i) : x = y := by
  apply Nat.eq_of_testBit_eq
  intro i
  by_cases hi : i < n
  · exact h i hi
  · rw [Nat.testBit_lt_two_pow (Nat.lt_of_lt_of_le hx (Nat.pow_le_pow_right (by omega) (by omega))), Nat.testBit_lt_two_pow (Nat.lt_of_lt_of_le hy (Nat.pow_le_pow_right (by omega) (by omega)))]
theorem field_split {u : Nat} (hu : u < 104) : ∃ k b, k < 5 ∧ b < fw k ∧ u = ff k + b := by
  by_cases h0 : u < 32
  · exact ⟨0, u, by omega, h0, by simp [ff]⟩
  by_cases h1 : u < 64
  · exact ⟨1, u - 32, by omega, by show _ < 32; omega, by show _ = 32 + _; omega⟩
  by_cases h2 : u < 72
  · exact ⟨2, u - 64, by omega, by show _ < 8; omega, by show _ = 64 + _; omega⟩
  by_cases h3 : u < 88
  · exact ⟨3, u - 72, by omega, by show _ < 16; omega, by show _ = 72 + _; omega⟩
  · exact ⟨4, u - 88, by omega, by show _ < 16; omega, by show _ = 88 + _; omega⟩
theorem sm_enc {p q : Pkt} (hp : p.ok) (hq : q.ok) (l : List Int) : smR (wnt l) (asg (gL (encF (fun _ => false) p q))) 104 = wtB p q l := by
  have eb : ∀ u nx, u < 104 → asg (gL (encF (fun _ => false) p q)) (hvar u nx) = (if nx then q else p).bit u := fun u nx hu => by rw [gL_at _ (hvar_lt hu nx), enc_bit]
  rw [Bool.eq_iff_iff, smR_eq _ _ 104 (Nat.le_refl _)]
  unfold wtB
  rw [List.all_eq_true]
  constructor
  · intro h x hx
    by_cases h5 : 0 ≤ x ∧ x < 5
    · obtain ⟨k, rfl⟩ : ∃ k : Nat, x = (k : Int) := ⟨x.toNat, by omega⟩
      have hk : k < 5 := by omega
      have hff := ff_fw hk
      have : p.f k = q.f k := bits_eq (hp.lt hk) (hq.lt hk) (fun i hi => by
        have h1 := h (ff k + (fw k - 1 - i)) (by omega) (by omega) (by rw [fieldOf_at hk (by omega)]; unfold wnt; simp [hk, hx])
        rw [eb _ false (by omega), eb _ true (by omega)] at h1
        simp only [Bool.false_eq_true, if_false, if_true] at h1
        rw [p.bit_at hk (by omega), q.bit_at hk (by omega), show fw k - 1 - (fw k - 1 - i) = i by omega] at h1
        exact h1)
      simp [this]
    · simp [h5]
  · intro h u _ hu hw
    obtain ⟨k, b, hk, hb, rfl⟩ : ∃ k b, k < 5 ∧ b < fw k ∧ u = ff k + b := field_split hu
    rw [fieldOf_at hk hb] at hw
    unfold wnt at hw
    simp only [Bool.and_eq_true, decide_eq_true_eq] at hw
    have h1 := h _ hw.2
    have h2 : (0 : Int) ≤ (k : Int) ∧ (k : Int) < 5 := by omega
    rw [decide_eq_true h2] at h1
    have h3 : p.f k = q.f k := by simpa using h1
    rw [eb _ false hu, eb _ true hu]
    simp only [Bool.false_eq_true, if_false, if_true]
    rw [p.bit_at hk hb, q.bit_at hk hb, h3]

def SlR (w : World) (p q : Pkt) (pm : Nat) (L : Lay) (l : List Int) (gk : Nat) (s10 s11 : Value) (x : World) : Prop := ∃ k, k + gk = l.length ∧ s10 = .bool (wtB p q (l.take k)) ∧ s11 = .int .i64 (k : Int) ∧ TwS w p q x ∧ Hf x pm L 220 2 x (Mgr.new 220) L []

set_option maxRecDepth 100000 in
set_option maxHeartbeats 8000000 in
theorem HeaderSames_walk (l : List Int) (p q : Pkt) (mx : Int) (hp : p.in32) (hq : q.in32) {dv : Value} {w : World} (hd : SrcAt w dv 1 l.length (l.map intV)) (g : Gl w) :
    Calls Tryd.prog 7 #[dv, pktV p, pktV q, .int .u8 mx] w fun e w' => e = .returned (.bool true) ∧ Kp No w w' := by
  obtain ⟨i0, hi0, hz0, hz1, hz2⟩ := info_parts info_int
  have T0 := Lib.hid (TwS.new g p q)
  have HD := Lib.hid hd
  obtain ⟨ao, c, rfl, _⟩ := hd
  clear g
  by_cases h20 : l.length ≤ 20
  case neg =>
    have AW := Lib.hid (fun (y : World) (h : Gl y) => hawake_ok h)
    have hl : (20 : Int) < l.length := by omega
    unfold pktV
    go_enter Tryd.func7, Tryd.ntmps7
    go_wp2_with fail
    refine (AW.out _ T0.out.gl).mono ?_
    rintro e w1 ⟨rfl, k1⟩
    have T1 := Lib.hid (T0.out.no k1)
    clear k1 T0
    go_wp2_with fail
    go_ret
    exact ⟨rfl, T1.out.kp⟩
  have hl : ¬ (20 : Int) < l.length := by omega
  have AW := Lib.hid (fun (y : World) (h : Gl y) => hawake_ok h)
  have VP := Lib.hid (fun (y : World) => ValidPacket_ok p y)
  have VQ := Lib.hid (fun (y : World) => ValidPacket_ok q y)
  cases hvp : vpB p
  · rw [hvp] at VP
    clear hvp
    unfold pktV at VP VQ ⊢
    go_enter Tryd.func7, Tryd.ntmps7
    go_wp2_with fail
    refine (AW.out _ T0.out.gl).mono ?_
    rintro e w1 ⟨rfl, k1⟩
    have T1 := Lib.hid (T0.out.no k1)
    clear k1 T0
    obtain ⟨c0, c1, c2, c3, c4⟩ := T1.out.pa
    go_wp2_with fail
    refine (VP.out _).mono ?_
    rintro e w2 ⟨rfl, k2⟩
    have T2 := Lib.hid (T1.out.no k2)
    clear k2 T1 c0 c1 c2 c3 c4
    go_wp2_with fail
    go_ret
    exact ⟨rfl, T2.out.kp⟩
  rw [hvp] at VP
  have hpo := vpB_true hp hvp
  cases hvq : vpB q
  · rw [hvq] at VQ
    clear hvq hvp hpo
    unfold pktV at VP VQ ⊢
    go_enter Tryd.func7, Tryd.ntmps7
    go_wp2_with fail
    refine (AW.out _ T0.out.gl).mono ?_
    rintro e w1 ⟨rfl, k1⟩
    have T1 := Lib.hid (T0.out.no k1)
    clear k1 T0
    obtain ⟨c0, c1, c2, c3, c4⟩ := T1.out.pa
    go_wp2_with fail
    refine (VP.out _).mono ?_
    rintro e w2 ⟨rfl, k2⟩
    have T2 := Lib.hid (T1.out.no k2)
    clear k2 T1 c0 c1 c2 c3 c4
    obtain ⟨d0, d1, d2, d3, d4⟩ := T2.out.pb
    go_wp2_with fail
    refine (VQ.out _).mono ?_
    rintro e w3 ⟨rfl, k3⟩
    have T3 := Lib.hid (T2.out.no k3)
    clear k3 T2 d0 d1 d2 d3 d4
    go_wp2_with fail
    go_ret
    exact ⟨rfl, T3.out.kp⟩
  rw [hvq] at VQ
  have hqo := vpB_true hq hvq
  have NEW := Lib.hid (fun (y : World) => HNew_ok y)
  clear hvp hvq
  have HPO := Lib.hid hpo
  have HQO := Lib.hid hqo
  obtain ⟨b0, hb0⟩ : ∃ b, (bits BinOp.and IntKind.u8 mx 1 == 1) = b := ⟨_, rfl⟩
  obtain ⟨b1, hb1⟩ : ∃ b, (bits BinOp.and IntKind.u8 mx 2 == 2) = b := ⟨_, rfl⟩
  obtain ⟨b2, hb2⟩ : ∃ b, (bits BinOp.and IntKind.u8 mx 4 == 4) = b := ⟨_, rfl⟩
  obtain ⟨b3, hb3⟩ : ∃ b, (bits BinOp.and IntKind.u8 mx 8 == 8) = b := ⟨_, rfl⟩
  obtain ⟨b4, hb4⟩ : ∃ b, (bits BinOp.and IntKind.u8 mx 16 == 16) = b := ⟨_, rfl⟩
  unfold pktV at VP VQ ⊢
  go_enter Tryd.func7, Tryd.ntmps7
  go_wp2_with fail
  refine (AW.out _ T0.out.gl).mono ?_
  rintro e w1 ⟨rfl, k1⟩
  have T1 := Lib.hid (T0.out.no k1)
  clear k1 T0
  obtain ⟨c0, c1, c2, c3, c4⟩ := T1.out.pa
  go_wp2_with fail
  refine (VP.out _).mono ?_
  rintro e w2 ⟨rfl, k2⟩
  have T2 := Lib.hid (T1.out.no k2)
  clear k2 T1 c0 c1 c2 c3 c4
  obtain ⟨d0, d1, d2, d3, d4⟩ := T2.out.pb
  go_wp2_with fail
  refine (VQ.out _).mono ?_
  rintro e w3 ⟨rfl, k3⟩
  have T3 := Lib.hid (T2.out.no k3)
  clear k3 T2 d0 d1 d2 d3 d4
  go_wp2_with fail
  refine (NEW.out _).mono ?_
  rintro e w4 ⟨pm, L4, rfl, R4, k4, o4⟩
  have T4 := Lib.hid (T3.out.no k4)
  have H4 := Lib.hid (hf_new T3.out.gl (Kp.refl No w3) R4 k4 o4)
  have O4 : Hid (∀ x, L4.at pm x → w.heap.size ≤ x) := Lib.hid (fun x hx => by have := o4 x hx; have := T3.out.kp.size; omega)
  have B4 : Hid (∀ x, L4.at pm x → w3.heap.size ≤ x) := Lib.hid o4
  clear R4 k4 o4 NEW
  have BQ : Hid (∀ b, L4.at pm b → w.heap.size + 1 < b) := Lib.hid (fun b hb => by have := B4.out b hb; have := T3.out.pb.lt; omega)
  have R0 : Hid (SamR w p pm L4 w4) := Lib.hid ⟨q, HQO.out, T4.out, H4.out⟩
  clear T3 T4 H4 B4 VP VQ HQO hq hqo
  go_upto_if 31 with fail
  go_cut [] from 29 to 109 (fun x => SamR w p pm L4 x)
  case first =>
    obtain ⟨q0, hq0, tt, hh⟩ := R0.out
    obtain ⟨c0, c1, c2, c3, c4⟩ := tt.pa
    obtain ⟨d0, d1, d2, d3, d4⟩ := tt.pb
    have z := tt.frz 0
    have RN := Lib.hid (SamR.set0 HPO.out hq0 tt hh BQ.out)
    have RK := R0
    clear tt hh
    cases b0
    · go_wp2_with fail
      go_meet
      case rel => exact RK.out
    · go_wp2_with fail
      go_meet
      case rel => exact RN.out
  case rest =>
  have R1 := Lib.hid hcut
  clear hcut R0 hb0
  generalize wc = wd0 at *
  go_upto_if 37 with fail
  go_cut [] from 29 to 109 (fun x => SamR w p pm L4 x)
  case first =>
    obtain ⟨q0, hq0, tt, hh⟩ := R1.out
    obtain ⟨c0, c1, c2, c3, c4⟩ := tt.pa
    obtain ⟨d0, d1, d2, d3, d4⟩ := tt.pb
    have z := tt.frz 1
    have RN := Lib.hid (SamR.set1 HPO.out hq0 tt hh BQ.out)
    have RK := R1
    clear tt hh
    cases b1
    · go_wp2_with fail
      go_meet
      case rel => exact RK.out
    · go_wp2_with fail
      go_meet
      case rel => exact RN.out
  case rest =>
  have R2 := Lib.hid hcut
  clear hcut R1 hb1
  generalize wc = wd1 at *
  go_upto_if 43 with fail
  go_cut [] from 29 to 109 (fun x => SamR w p pm L4 x)
  case first =>
    obtain ⟨q0, hq0, tt, hh⟩ := R2.out
    obtain ⟨c0, c1, c2, c3, c4⟩ := tt.pa
    obtain ⟨d0, d1, d2, d3, d4⟩ := tt.pb
    have z := tt.frz 2
    have RN := Lib.hid (SamR.set2 HPO.out hq0 tt hh BQ.out)
    have RK := R2
    clear tt hh
    cases b2
    · go_wp2_with fail
      go_meet
      case rel => exact RK.out
    · go_wp2_with fail
      go_meet
      case rel => exact RN.out
  case rest =>
  have R3 := Lib.hid hcut
  clear hcut R2 hb2
  generalize wc = wd2 at *
  go_upto_if 49 with fail
  go_cut [] from 29 to 109 (fun x => SamR w p pm L4 x)
  case first =>
    obtain ⟨q0, hq0, tt, hh⟩ := R3.out
    obtain ⟨c0, c1, c2, c3, c4⟩ := tt.pa
    obtain ⟨d0, d1, d2, d3, d4⟩ := tt.pb
    have z := tt.frz 3
    have RN := Lib.hid (SamR.set3 HPO.out hq0 tt hh BQ.out)
    have RK := R3
    clear tt hh
    cases b3
    · go_wp2_with fail
      go_meet
      case rel => exact RK.out
    · go_wp2_with fail
      go_meet
      case rel => exact RN.out
  case rest =>
  have R4 := Lib.hid hcut
  clear hcut R3 hb3
  generalize wc = wd3 at *
  go_upto_if 55 with fail
  go_cut [] from 29 to 109 (fun x => SamR w p pm L4 x)
  case first =>
    obtain ⟨q0, hq0, tt, hh⟩ := R4.out
    obtain ⟨c0, c1, c2, c3, c4⟩ := tt.pa
    obtain ⟨d0, d1, d2, d3, d4⟩ := tt.pb
    have z := tt.frz 4
    have RN := Lib.hid (SamR.set4 HPO.out hq0 tt hh BQ.out)
    have RK := R4
    clear tt hh
    cases b4
    · go_wp2_with fail
      go_meet
      case rel => exact RK.out
    · go_wp2_with fail
      go_meet
      case rel => exact RN.out
  case rest =>
  have R5 := Lib.hid hcut
  clear hcut R4 hb4
  generalize wc = wd4 at *
  obtain ⟨q, hqo, tt, hh⟩ := R5.out
  have HQO := Lib.hid hqo
  have J0 : Hid (SlR w p q pm L4 l l.length (.bool true) (.int .i64 0) wd4) := Lib.hid ⟨0, by omega, rfl, rfl, tt, hh⟩
  clear tt hh R5 hqo
  have FP := Lib.hid (fun (k : Nat) (hk : k < 5) (y : World) => Field_ok p k hk y)
  have FQ := Lib.hid (fun (k : Nat) (hk : k < 5) (y : World) => Field_ok q k hk y)
  have PR := Lib.hid (fun (y : World) (h : Gl y) => pair_ok p q hp HQO.out.in32 h)
  have CK : Hid (∀ y, TwS w p q y → y.cell? ⟨w.heap.size, 0, none⟩ = some (.int .u32 (p.src : Int)) ∧ y.cell? ⟨w.heap.size, 1, none⟩ = some (.int .u32 (p.dst : Int)) ∧ y.cell? ⟨w.heap.size, 2, none⟩ = some (.int .i64 p.proto) ∧ y.cell? ⟨w.heap.size, 3, none⟩ = some (.int .i64 p.sport) ∧ y.cell? ⟨w.heap.size, 4, none⟩ = some (.int .i64 p.dport) ∧ y.cell? ⟨w.heap.size + 1, 0, none⟩ = some (.int .u32 (q.src : Int)) ∧ y.cell? ⟨w.heap.size + 1, 1, none⟩ = some (.int .u32 (q.dst : Int)) ∧ y.cell? ⟨w.heap.size + 1, 2, none⟩ = some (.int .i64 q.proto) ∧ y.cell? ⟨w.heap.size + 1, 3, none⟩ = some (.int .i64 q.sport) ∧ y.cell? ⟨w.heap.size + 1, 4, none⟩ = some (.int .i64 q.dport)) := Lib.hid (fun y t => ⟨t.pa.c0, t.pa.c1, t.pa.c2, t.pa.c3, t.pa.c4, t.pb.c0, t.pb.c1, t.pb.c2, t.pb.c3, t.pb.c4⟩)
  have EV := Lib.hid (sm_enc HPO.out HQO.out l)
  unfold pktV at FP FQ PR
  clear hp HPO HQO
  go_wp2_with fail
  go_loopg [10, 11] l.length (fun gk s10 s11 x => SlR w p q pm L4 l gk s10 s11 x)
  case atStart => exact J0.out
  case round =>
    clear J0
    obtain ⟨k, hk, rfl, rfl, tt, hh⟩ := hrel
    by_cases hlt : k < l.length
    · clear EV PR
      obtain ⟨ao', c', hv', _, hcells⟩ := HD.out.no tt.kp
      have hv1 : ao = ao' := by injection hv'
      subst hv1
      rcases hcells with hcells | ⟨g, o, rfl, hg, hcells⟩
      · rw [hcells] at hlt; simp at hlt
      have hc : wr.cell? ⟨g, o + k, none⟩ = some (.int .i64 (l.getD k 0)) := hcells k _ (by simp [hlt, intV])
      have hlti : (k : Int) < l.length := by omega
      have HK := Lib.hid hk
      have TT := Lib.hid tt
      have HH := Lib.hid hh
      have SS := Lib.hid (wtB_succ p q l hlt)
      have HG : Hid (∀ y, Kp No w y → y.cell? ⟨g, o + k, none⟩ = some (.int .i64 (l.getD k 0))) := Lib.hid (fun y ky => by
        obtain ⟨ao2, c2, hv2, _, hc2⟩ := HD.out.no ky
        rcases hc2 with hc2 | ⟨g2, o2, e2, _, hc2⟩
        · rw [hc2] at hlt; simp at hlt
        · cases hv2; cases e2
          exact hc2 k _ (by simp [hlt, intV]))
      generalize wtB p q (l.take k) = bw at *
      by_cases hx : 0 ≤ l.getD k 0 ∧ l.getD k 0 < 5
      · obtain ⟨v, hv⟩ : ∃ v : Nat, l.getD k 0 = (v : Int) := ⟨(l.getD k 0).toNat, by omega⟩
        have hv5 : v < 5 := by omega
        rw [hv] at hc SS HG
        have FPV := Lib.hid (FP.out v hv5)
        have FQV := Lib.hid (FQ.out v hv5)
        have hv0 : (0 : Int) ≤ (v : Int) := by omega
        have hv4 : (v : Int) ≤ 4 := by omega
        have SE : Hid (wtB p q (l.take (k + 1)) = (bw && ((p.f v : Int) == (q.f v : Int)))) := Lib.hid (by
          rw [SS.out, decide_eq_true (show (0 : Int) ≤ (v : Int) ∧ (v : Int) < 5 by omega), Int.toNat_natCast]
          simp only [Bool.not_true, Bool.false_or]
          congr 1
          rw [Bool.eq_iff_iff, beq_iff_eq, beq_iff_eq]
          omega)
        generalize p.f v = x1 at *
        generalize q.f v = x2 at *
        clear hk tt hh hcells hv' hx hv SS FP FQ
        cases bw
        · have JD : Hid (∀ m, SlR w p q pm L4 l (l.length - (k + 1)) (.bool false) (.int .i64 ((k + 1 : Nat) : Int)) (wr.drewN m)) := Lib.hid (fun m => ⟨k + 1, by omega, by rw [SE.out]; rfl, rfl, TT.out.no (Kp.drewN m), (HH.out.no (Kp.drewN m)).rebase⟩)
          go_upto_region 21 with fail
          go_quiet (fail)
          all_goals
            go_wp2_with fail
            go_roundg (l.length - (k + 1))
            case measure => have := HK.out; omega
            case rel => exact JD.out _
        · have TD := Lib.hid (TT.out.no Kp.drew)
          have S0 := Lib.hid (And.intro (HG.out _ TD.out.kp) (CK.out _ TD.out))
          have KD : Hid (Kp No wr wr.drew) := Lib.hid Kp.drew
          go_upto_region 21 with fail
          go_region_held3 (fun y => y.cell? ⟨g, o + k, none⟩ = some (.int .i64 (v : Int)) ∧ y.cell? ⟨w.heap.size, 0, none⟩ = some (.int .u32 (p.src : Int)) ∧ y.cell? ⟨w.heap.size, 1, none⟩ = some (.int .u32 (p.dst : Int)) ∧ y.cell? ⟨w.heap.size, 2, none⟩ = some (.int .i64 p.proto) ∧ y.cell? ⟨w.heap.size, 3, none⟩ = some (.int .i64 p.sport) ∧ y.cell? ⟨w.heap.size, 4, none⟩ = some (.int .i64 p.dport) ∧ y.cell? ⟨w.heap.size + 1, 0, none⟩ = some (.int .u32 (q.src : Int)) ∧ y.cell? ⟨w.heap.size + 1, 1, none⟩ = some (.int .u32 (q.dst : Int)) ∧ y.cell? ⟨w.heap.size + 1, 2, none⟩ = some (.int .i64 q.proto) ∧ y.cell? ⟨w.heap.size + 1, 3, none⟩ = some (.int .i64 q.sport) ∧ y.cell? ⟨w.heap.size + 1, 4, none⟩ = some (.int .i64 q.dport)) (first | exact S0.out | exact SB.out | exact SA.out)
            (first | (go_at_call 28; (first | (with_reducible refine (FPV.out _).mono ?_) | (with_reducible refine (FQV.out _).mono ?_)); rintro e wa ⟨rfl, ka⟩; (first | (have KB := Lib.hid (KA.out.trans_no ka); have TB := Lib.hid (TA.out.no ka); have SB := Lib.hid (And.intro (HG.out _ TB.out.kp) (CK.out _ TB.out)); clear ka) | (have KA := Lib.hid (KD.out.trans_no ka); have TA := Lib.hid (TD.out.no ka); have SA := Lib.hid (And.intro (HG.out _ TA.out.kp) (CK.out _ TA.out)); clear ka))))
          all_goals
            have JN := Lib.hid (And.intro TB.out (HH.out.no KB.out).rebase)
            clear S0 SA SB TA TB TD KA KB HH TT
            go_wp2_with fail
            go_roundg (l.length - (k + 1))
            case measure => have := HK.out; omega
            case rel => exact ⟨k + 1, by omega, by rw [SE.out]; simp, by simp, JN.out.1, JN.out.2⟩
      · have SE : Hid (wtB p q (l.take (k + 1)) = bw) := Lib.hid (by
          rw [SS.out, decide_eq_false hx]; simp)
        have JN : Hid (SlR w p q pm L4 l (l.length - (k + 1)) (.bool bw) (.int .i64 ((k + 1 : Nat) : Int)) wr) := Lib.hid ⟨k + 1, by omega, by rw [SE.out], rfl, TT.out, HH.out⟩
        clear hk tt hh hcells hv' SS FP FQ SE TT HH CK HG
        by_cases h0 : 0 ≤ l.getD k 0
        · have h4 : ¬ l.getD k 0 ≤ 4 := by omega
          clear hx
          generalize l.getD k 0 = z at *
          go_wp2_with fail
          go_roundg (l.length - (k + 1))
          case measure => have := HK.out; omega
          case rel => exact JN.out
        · clear hx
          generalize l.getD k 0 = z at *
          go_wp2_with fail
          go_roundg (l.length - (k + 1))
          case measure => have := HK.out; omega
          case rel => exact JN.out
    · obtain rfl : k = l.length := by omega
      rw [List.take_length]
      have hlti : ¬ (l.length : Int) < l.length := by omega
      have SRC := Lib.hid (HD.out.no tt.kp)
      have HONE : Hid (∀ u ∈ l.map intV, u.oneCell' = true) := Lib.hid (fun u hu => by obtain ⟨b, _, rfl⟩ := List.mem_map.1 hu; rfl)
      have TT := Lib.hid tt
      have HH := Lib.hid hh
      clear hk tt hh hlt FP FQ CK
      generalize wtB p q l = bw at *
      go_wp2_with (at_builtin; refine wpList_append_src rfl _ _ rfl (base := wr.heap.size) (v := .slice none 0 0) Tryd.underlying26 hi0 hz0 hz1 hz2 rfl (by omega) rfl (World.ownsRow_nil _ _ _ _) rfl SRC.out HONE.out (by unfold maxLen; omega) (by omega) (Nat.le_refl _) ?_; intro v2 w2 hown hgrow hat)
      have k2 : Kp No wr w2 := (Kp.grown hgrow).mono (fun x _ h => by simp [Value.ownBlock] at h)
      have row2 : w2.ownsRow wr.heap.size 3 1 v2 l.length (l.map intV) := by simpa using hown
      have T2 := Lib.hid (TT.out.no k2)
      have H2 := Lib.hid (HH.out.no k2).rebase
      have SM := Lib.hid (Same_ok l (by omega) H2.out.rep H2.out.qk H2.out.gl H2.out.off (SrcAt.of_row row2) (by omega))
      obtain ⟨a2, c2, rfl, _⟩ := ownsRow_len (row_zero row2)
      clear hown hgrow hat k2 row2 TT HH SRC
      refine SM.out.mono ?_
      intro e w3 h3
      obtain ⟨r, M3, L3, rfl, hr, f3⟩ := H2.out.step h3
      have H3 := Lib.hid f3
      have T3 := Lib.hid (T2.out.mgr f3.sd.kp (fun b hb => BQ.out b hb) (by omega))
      have VAL := Lib.hid (ValidQ f3.rep f3.qk (.head _))
      have PRD := Lib.hid (PR.out _ T3.out.gl)
      obtain ⟨c0, c1, c2', c3, c4⟩ := T3.out.pa
      obtain ⟨d0, d1, d2, d3, d4⟩ := T3.out.pb
      clear h3 f3 SM H2 T2 PR
      go_wp2_with fail
      refine VAL.out.mono ?_
      rintro e wv ⟨rfl, rfl⟩
      go_wp2_with fail
      refine PRD.out.mono ?_
      rintro e wa ⟨ga, rfl, row, ka⟩
      have EVQ := Lib.hid (EvalQ (H3.out.rep.no ka) H3.out.qk (.head _) (bools_row row))
      rw [EV.out] at EVQ
      have KA := Lib.hid (T3.out.kp.trans_no ka)
      clear ka row c0 c1 c2' c3 c4 d0 d1 d2 d3 d4
      go_wp2_with fail
      refine EVQ.out.mono ?_
      rintro e wb ⟨rfl, kb⟩
      have KB := Lib.hid (KA.out.trans_no kb)
      clear kb
      go_wp2_with fail
      go_ret
      exact ⟨by simp, KB.out⟩

end Go.Proofs.YtgglkldoclejaaaDoor
