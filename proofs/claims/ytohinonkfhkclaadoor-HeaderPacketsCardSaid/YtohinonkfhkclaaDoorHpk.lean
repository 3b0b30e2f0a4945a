/-
  Walks: the law HeaderPackets.
-/
import Derived.Test.YtohinonkfhkclaaDoorHlb
import Derived.Deep.RegionHeld3
import Derived.Deep.CutBlock
namespace Go.Proofs.YtohinonkfhkclaaDoor
open Go.RowKit

/-- The fields of a packet, one after the other. -/
def alF (p : Pkt) : Nat → Bfn
  | 0 => fun _ => true
  | i + 1 => fun a => alF p i a && rgF i false (p.f i) (p.f i) a
theorem alF_st (p : Pkt) : ∀ i, i ≤ 5 → PSt 220 (alF p i) (9 ^ i)
  | 0, _ => PSt.const _ _
  | i + 1, h => (PSt.op (fun x y => x && y) (alF_st p i (by omega)) (rgF_nine (by omega) (p.f i) (p.f i))).mono (by rw [Nat.pow_succ]; exact Nat.le_refl _)
theorem alF_mono (p : Pkt) {i : Nat} (h : i ≤ 5) : PSt 220 (alF p i) 59049 := (alF_st p i h).mono (by have := Nat.pow_le_pow_right (n := 9) (by omega) h; omega)
theorem alF_pk (p : Pkt) (a : Nat → Bool) : alF p 5 a = pkF p false 5 a := by
  simp only [alF, pkF, Bool.true_and, Bool.and_true, Bool.and_assoc]
def HpL (w4 : World) (pm : Nat) (L4 : Lay) (f : Int) (p : Pkt) (gk : Nat) (s7 s8 : Value) (x : World) : Prop :=
  ∃ i r M L, i + gk = 5 ∧ s7 = .int .i64 r ∧ s8 = .int .i64 (i : Int) ∧ Hf w4 pm L4 220 (100000002 + i * 100000000) x M L [(r, alF p i), (f, pkF p false 5)]
theorem pk_ne {n c : Nat} {M : Mgr} {B : List (Int × Bfn)} (b : Qk n c M B) {f : Int} {p : Pkt} (hp : p.ok) (nx : Bool) (hf : (f, pkF p nx 5) ∈ B) : f ≠ 0 := fun e => by
  subst e
  have h := (zero_iff b hf).1 rfl (encP (fun _ => false) p)
  have t : pkF p nx 5 (encP (fun _ => false) p) = true := by
    rw [pk_iff hp nx, encP, getP_enc (fun _ => false) hp hp nx (fun _ _ => rfl)]; simp
  rw [t] at h; cases h
theorem pk_differ {n c : Nat} {M : Mgr} {B : List (Int × Bfn)} (b : Qk n c M B) {f g : Int} {p q : Pkt} (hp : p.ok) (hq : q.ok) (nx : Bool) (hf : (f, pkF p nx 5) ∈ B) (hg : (g, pkF q nx 5) ∈ B) (ne : p ≠ q) : f ≠ g := fun e => by
  subst e
  have h := b.eq_conv hf hg (encP (fun _ => false) p)
  have t : getP (encP (fun _ => false) p) nx = p := by
    rw [encP, getP_enc (fun _ => false) hp hp nx (fun _ _ => rfl)]; simp
  rw [(pk_iff hp nx _).2 t] at h
  exact ne (by rw [← (pk_iff hq nx _).1 h.symm]; exact t.symm)
theorem Hf.step_row {w0 w w' : World} {p n c : Nat} {L0 L : Lay} {M : Mgr} {B : List (Int × Bfn)} {F : Bfn} {e : Ending} {c' t i base : Nat} {v : Value} {xs : List Value} (h : Hf w0 p L0 n c w M L B) (o : OpQ p n c' L w F B e w') (ro : w.ownsRow base t 1 v i xs ∧ ∀ b, v.ownBlock = some b → ¬ L.at p b) :
    ∃ r M' L', e = .returned (.int .i64 r) ∧ 0 ≤ r ∧ Hf w0 p L0 n c' w' M' L' ((r, F) :: B) ∧ (w'.ownsRow base t 1 v i xs ∧ ∀ b, v.ownBlock = some b → ¬ L'.at p b) := by
  obtain ⟨r, M', ⟨L', he, rr, k, f⟩, q, h0⟩ := o
  obtain ⟨row, off⟩ := ro
  refine ⟨r, M', L', he, h0, ⟨⟨rr, h.sd.kp.trans h.sd.fr k, fun x hx => ?_⟩, q, h.gl.kp k h.off, fun hx => ?_⟩, ownsRow_kp row k (fun b hb hA => off b hb hA), fun b hb hA => ?_⟩
  · rcases f x hx with h1 | h1
    · exact h.sd.fr x h1
    · right; have := h.sd.kp.size; omega
  · rcases f _ hx with h1 | h1
    · exact h.off h1
    · have := h.gl.lt; omega
  · rcases f b hA with h1 | h1
    · exact off b hb h1
    · have := (row.lt b hb).2; omega
theorem eql_pk {p q : Pkt} (h : p ≠ q) (W : World) : (binOp .eql 48 (pktV p) (pktV q)).run Tryd.prog W = .ok (.bool false) W := by
  unfold pktV
  go_simp
  intro h0 h1 h2 h3 h4
  apply h
  obtain ⟨p0, p1, p2, p3, p4⟩ := p
  obtain ⟨q0, q1, q2, q3, q4⟩ := q
  simp only [Pkt.mk.injEq] at *
  omega
/-- The one packet of a set is its least one. -/
theorem HLeast_one {p c : Nat} {M : Mgr} {L : Lay} {B : List (Int × Bfn)} {f : Int} {q : Pkt} (hq : q.ok) {w : World} (h : Hf w p L 220 c w M L B) (hf : (f, pkF q false 5) ∈ B) (hc : c ≤ 400000000000) :
    Calls Tryd.prog 36 #[ptr p, .int .i64 f] w fun e w' => ∃ a cc M', Ret p L w M' (.tuple #[.slice a 0 cc, pktV q, .bool true]) e w' ∧ Qk 220 (c + 100000000) M' B := by
  have e : pkF q false 5 = pksF [q] := funext (pks_one hq)
  have := HLeast_ok h.rep h.qk h.gl h.off hf (pk_ne h.qk hq false hf) ((pkF_st q false 5 (by omega)).mono (by omega : _ ≤ 51)) (fun v hv h12 ho a => by rw [e]; exact pks_off _ (.inr ho) _ _ _) (by omega)
  obtain ⟨q', hm, h1, h2, _⟩ := hl_pks (l := [q]) (by simp) (fun x hx => by rw [List.mem_singleton.1 hx]; exact hq)
  rw [List.mem_singleton.1 hm] at h1
  refine this.mono (fun e' w' hh => ?_)
  obtain ⟨dv, M', hr, hk, hrow⟩ := hh
  have ea : asg (gL (aL hlV (lsV (pkF q false 5) hlV) (fun _ => false))) = hlA (pksF [q]) := by rw [e]; rfl
  rw [ea, h2] at hrow
  rw [ea, h1] at hr
  obtain ⟨a, cc, rfl⟩ := rowForm hrow
  exact ⟨a, cc, M', hr, hk.mono (by omega)⟩
theorem HCount_one {p c : Nat} {M : Mgr} {L : Lay} {B : List (Int × Bfn)} {f : Int} {q : Pkt} (hq : q.ok) {w : World} (h : Hf w p L 220 c w M L B) (hf : (f, pkF q false 5) ∈ B) :
    Calls Tryd.prog 34 #[ptr p, .int .i64 f] w fun e w' => e = .returned (.tuple #[.int .u64 0, .int .u64 1, .int .i64 0]) ∧ Kp No w w' := by
  have e : pkF q false 5 = pksF [q] := funext (pks_one hq)
  have := HCount_ok h.rep h.qk hf (fun v _ hv a => by rw [e]; exact pks_off _ hv _ _ _)
  rw [difN_one hq] at this
  exact this
theorem HLeast_next {p c : Nat} {M : Mgr} {L : Lay} {B : List (Int × Bfn)} {f : Int} {q : Pkt} (hq : q.ok) {w : World} (h : Hf w p L 220 c w M L B) (hf : (f, pkF q true 5) ∈ B) :
    Calls Tryd.prog 36 #[ptr p, .int .i64 f] w fun e w' => e = .returned (.tuple #[.slice none 0 0, .agg #[.int .u32 0, .int .u32 0, .int .i64 0, .int .i64 0, .int .i64 0], .bool false]) ∧ Kp No w w' :=
  HLeast_bad h.rep h.qk hf (pk_ne h.qk hq true hf) (v := 219) (by omega) (by omega) (by omega) (pk_next_ne hq)

set_option maxRecDepth 1000000 in
set_option maxHeartbeats 16000000 in
theorem HeaderPackets_walk (p q : Pkt) (hp : p.in32) (hq : q.in32) {w : World} (g : Gl w) :
    Calls Tryd.prog 7 #[pktV p, pktV q] w fun e w' => e = .returned (.bool true) ∧ Kp No w w' := by
  have T0 := Lib.hid (Two2.new2 g p q)
  clear g
  have AW := Lib.hid (fun (y : World) (h : Gl y) => hawake_ok h)
  have VP := Lib.hid (fun (y : World) => ValidPacket_ok p y)
  have VQ := Lib.hid (fun (y : World) => ValidPacket_ok q y)
  cases hvp : vpB p
  · rw [hvp] at VP
    clear hvp
    unfold pktV at VP VQ ⊢
    go_enter Tryd.func7, Tryd.ntmps7
    go_wp2_with fail
    refine (AW.out _ T0.out.gl).mono ?_
    rintro e w1 ⟨rfl, k1⟩
    have T1 := Lib.hid (T0.out.no k1)
    clear k1 T0
    obtain ⟨c0, c1, c2, c3, c4⟩ := T1.out.pa
    go_wp2_with fail
    refine (VP.out _).mono ?_
    rintro e w2 ⟨rfl, k2⟩
    have T2 := Lib.hid (T1.out.no k2)
    clear k2 T1 c0 c1 c2 c3 c4
    go_wp2_with fail
    go_ret
    exact ⟨rfl, T2.out.kp⟩
  rw [hvp] at VP
  have hpo := vpB_true hp hvp
  cases hvq : vpB q
  · rw [hvq] at VQ
    clear hvq hvp hpo
    unfold pktV at VP VQ ⊢
    go_enter Tryd.func7, Tryd.ntmps7
    go_wp2_with fail
    refine (AW.out _ T0.out.gl).mono ?_
    rintro e w1 ⟨rfl, k1⟩
    have T1 := Lib.hid (T0.out.no k1)
    clear k1 T0
    obtain ⟨c0, c1, c2, c3, c4⟩ := T1.out.pa
    go_wp2_with fail
    refine (VP.out _).mono ?_
    rintro e w2 ⟨rfl, k2⟩
    have T2 := Lib.hid (T1.out.no k2)
    clear k2 T1 c0 c1 c2 c3 c4
    obtain ⟨d0, d1, d2, d3, d4⟩ := T2.out.pb
    go_wp2_with fail
    refine (VQ.out _).mono ?_
    rintro e w3 ⟨rfl, k3⟩
    have T3 := Lib.hid (T2.out.no k3)
    clear k3 T2 d0 d1 d2 d3 d4
    go_wp2_with fail
    go_ret
    exact ⟨rfl, T3.out.kp⟩
  rw [hvq] at VQ
  have hqo := vpB_true hq hvq
  have NEW := Lib.hid (fun (y : World) => HNew_ok y)
  clear hvp hvq
  have HPO := Lib.hid hpo
  have HQO := Lib.hid hqo
  have PPQ := Lib.hid (fun (y : World) (h : Gl y) => pair_ok p q hp hq h)
  have PKC := Lib.hid (fun (c : Nat) (M : Mgr) (L : Lay) (B : List (Int × Bfn)) (y : World) (pm : Nat) (f : Hf y pm L 220 c y M L B) (hc : c ≤ 400000000000) => Packet_ok p hp false f.rep f.qk f.gl f.off hc)
  have PKP := Lib.hid (fun (c : Nat) (M : Mgr) (L : Lay) (B : List (Int × Bfn)) (y : World) (pm : Nat) (f : Hf y pm L 220 c y M L B) (hc : c ≤ 400000000000) => Packet_ok p hp true f.rep f.qk f.gl f.off hc)
  have PKQ := Lib.hid (fun (c : Nat) (M : Mgr) (L : Lay) (B : List (Int × Bfn)) (y : World) (pm : Nat) (f : Hf y pm L 220 c y M L B) (hc : c ≤ 400000000000) => Packet_ok q hq true f.rep f.qk f.gl f.off hc)
  have FP := Lib.hid (fun (k : Nat) (hk : k < 5) (y : World) => Field_ok p k hk y)
  have RG := Lib.hid (fun (k : Nat) (hk : k < 5) (c : Nat) (M : Mgr) (L : Lay) (B : List (Int × Bfn)) (y : World) (pm : Nat) (f : Hf y pm L 220 c y M L B) (hc : c ≤ 500000000000) => Range_ok k hk false (p.f k) (p.f k) (hp.f hk) (hp.f hk) f.rep f.qk f.gl f.off hc)
  have CQ := Lib.hid (fun (c : Nat) (M : Mgr) (L : Lay) (B : List (Int × Bfn)) (f : Int) (y : World) (pm : Nat) (h : Hf y pm L 220 c y M L B) (hf : (f, pkF p false 5) ∈ B) => HCount_one hpo h hf)
  have LQ := Lib.hid (fun (c : Nat) (M : Mgr) (L : Lay) (B : List (Int × Bfn)) (f : Int) (y : World) (pm : Nat) (h : Hf y pm L 220 c y M L B) (hf : (f, pkF p false 5) ∈ B) (hc : c ≤ 400000000000) => HLeast_one hpo h hf hc)
  have LN := Lib.hid (fun (c : Nat) (M : Mgr) (L : Lay) (B : List (Int × Bfn)) (f : Int) (y : World) (pm : Nat) (h : Hf y pm L 220 c y M L B) (hf : (f, pkF p true 5) ∈ B) => HLeast_next hpo h hf)
  clear hpo hqo hp hq
  unfold pktV at *
  go_enter Tryd.func7, Tryd.ntmps7
  go_wp2_with fail
  refine (AW.out _ T0.out.gl).mono ?_
  rintro e w1 ⟨rfl, k1⟩
  have T1 := Lib.hid (T0.out.no k1)
  clear k1 T0
  obtain ⟨c0, c1, c2, c3, c4⟩ := T1.out.pa
  go_wp2_with fail
  refine (VP.out _).mono ?_
  rintro e w2 ⟨rfl, k2⟩
  have T2 := Lib.hid (T1.out.no k2)
  clear k2 T1 c0 c1 c2 c3 c4
  obtain ⟨d0, d1, d2, d3, d4⟩ := T2.out.pb
  go_wp2_with fail
  refine (VQ.out _).mono ?_
  rintro e w3 ⟨rfl, k3⟩
  have T3 := Lib.hid (T2.out.no k3)
  clear k3 T2 d0 d1 d2 d3 d4
  go_wp2_with fail
  refine (NEW.out _).mono ?_
  rintro e w4 ⟨pm, L4, rfl, R4, k4, o4⟩
  have T4 := Lib.hid (T3.out.no k4)
  have H4 := Lib.hid (hf_new T3.out.gl (Kp.refl No w3) R4 k4 o4)
  have O4 : Hid (∀ x, L4.at pm x → w.heap.size ≤ x) := Lib.hid (fun x hx => by have := o4 x hx; have := T3.out.kp.size; omega)
  have B4 : Hid (∀ x, L4.at pm x → w3.heap.size ≤ x) := Lib.hid o4
  clear R4 k4 o4 NEW
  have B4' : Hid (∀ b, L4.at pm b → w.heap.size + 2 ≤ b) := Lib.hid (fun b hb => by have := B4.out b hb; have := T3.out.pb.lt; omega)
  have CT : Hid (∀ y, Kp (L4.at pm) w4 y → Two2 w w.heap.size (w.heap.size + 1) p q y) := Lib.hid (fun y ky => T4.out.mgr ky B4'.out (by omega) (by omega) (by omega))
  have W4 : Hid (w.heap.size + 2 ≤ w4.heap.size) := Lib.hid (by have := T4.out.pb.lt; omega)
  obtain ⟨c0, c1, c2, c3, c4⟩ := T4.out.pa
  clear T3 O4 B4
  go_wp2_with fail
  refine (PKC.out _ _ _ _ _ _ H4.out (by omega)).mono ?_
  intro e w5 h5
  obtain ⟨f, M5, L5, rfl, hf, f5⟩ := H4.out.step h5
  have J0 : Hid (HpL w4 pm L4 f p 5 (.int .i64 1) (.int .i64 0) w5) := Lib.hid ⟨0, 1, M5, L5, by omega, rfl, rfl, (f5.consts.sub (fun x hx => by
    rcases List.mem_cons.1 hx with rfl | hx
    · exact .tail _ (.head _)
    · rw [List.mem_singleton.1 hx]; exact .tail _ (.tail _ (.head _)))).mono (by omega)⟩
  clear h5 f5 H4 c0 c1 c2 c3 c4 T4 PKC
  go_wp2_with fail
  go_loopg [7, 8] 5 (fun gk s7 s8 x => HpL w4 pm L4 f p gk s7 s8 x)
  case atStart => exact J0.out
  case round =>
    clear J0
    obtain ⟨i, r, M1, L1, hi, rfl, rfl, h⟩ := hrel
    have HI := Lib.hid hi
    by_cases hlt : i < 5
    · have hlti : (i : Int) < 5 := by omega
      have HD := Lib.hid (h.no Kp.drew)
      have CK : Hid (∀ y, Kp (L4.at pm) w4 y → y.cell? ⟨w.heap.size, 0, none⟩ = some (.int .u32 (p.src : Int)) ∧ y.cell? ⟨w.heap.size, 1, none⟩ = some (.int .u32 (p.dst : Int)) ∧ y.cell? ⟨w.heap.size, 2, none⟩ = some (.int .i64 p.proto) ∧ y.cell? ⟨w.heap.size, 3, none⟩ = some (.int .i64 p.sport) ∧ y.cell? ⟨w.heap.size, 4, none⟩ = some (.int .i64 p.dport)) := Lib.hid (fun y ky => by
        obtain ⟨c0, c1, c2, c3, c4⟩ := (CT.out y ky).pa
        exact ⟨c0, c1, c2, c3, c4⟩)
      have S0 := Lib.hid (CK.out _ HD.out.sd.kp)
      have FI := Lib.hid (FP.out i hlt)
      have RI := Lib.hid (RG.out i hlt)
      have PS := Lib.hid (alF_mono p (i := i + 1) (by omega))
      clear h hi RG FP
      have EA : alF p (i + 1) = fun a => alF p i a && rgF i false (p.f i) (p.f i) a := rfl
      rw [EA] at PS
      generalize p.f i = fi at *
      go_upto_region 11 with fail
      go_region_held3 (fun y => y.cell? ⟨w.heap.size, 0, none⟩ = some (.int .u32 (p.src : Int)) ∧ y.cell? ⟨w.heap.size, 1, none⟩ = some (.int .u32 (p.dst : Int)) ∧ y.cell? ⟨w.heap.size, 2, none⟩ = some (.int .i64 p.proto) ∧ y.cell? ⟨w.heap.size, 3, none⟩ = some (.int .i64 p.sport) ∧ y.cell? ⟨w.heap.size, 4, none⟩ = some (.int .i64 p.dport)) (exact S0.out) (first | (go_at_call 35; (with_reducible refine (FI.out _).mono ?_); rintro e wa ⟨rfl, ka⟩; replace HD := Lib.hid (HD.out.no ka); replace S0 := Lib.hid (CK.out _ HD.out.sd.kp); clear ka) | (go_at_call 22; have RC := RI.out _ _ _ _ _ _ HD.out.rebase (by omega); (with_reducible refine RC.mono ?_); clear RC; intro e wb hb; obtain ⟨rb, Mb, Lb, rfl, _, fb⟩ := HD.out.step hb; have HB := Lib.hid fb; replace S0 := Lib.hid (CK.out _ HB.out.sd.kp); clear hb fb) | (go_at_call 24; have AN := AndQ HB.out.rep HB.out.qk (f := r) (F := alF p i) (List.Mem.tail _ (List.Mem.head _)) (List.Mem.head _) PS.out (by omega); (with_reducible refine AN.mono ?_); clear AN; intro e wc hc; obtain ⟨rc, Mc, Lc, rfl, _, fc⟩ := HB.out.step hc; have HC := Lib.hid fc; replace S0 := Lib.hid (CK.out _ HC.out.sd.kp); clear hc fc))
      all_goals
        have JN : Hid (HpL w4 pm L4 f p (5 - (i + 1)) (.int .i64 rc) (.int .i64 ((i + 1 : Nat) : Int)) wc) := Lib.hid ⟨i + 1, rc, Mc, Lc, by omega, rfl, rfl, by
          rw [EA]
          refine (HC.out.sub (fun x hx => ?_)).mono (by omega)
          rcases List.mem_cons.1 hx with rfl | hx
          · exact .head _
          · rw [List.mem_singleton.1 hx]; exact .tail _ (.tail _ (.tail _ (.head _)))⟩
        clear S0 HD HB HC FI RI PS EA
        go_wp2_with fail
        go_roundg (5 - (i + 1))
        case measure => have := HI.out; omega
        case rel => exact JN.out
    · obtain rfl : i = 5 := by omega
      have hlti : ¬ ((5 : Nat) : Int) < 5 := by omega
      obtain rfl : r = f := h.qk.eq (.head _) (.tail _ (.head _)) (alF_pk p)
      have H6 := Lib.hid ((h.sub (B' := [(r, pkF p false 5)]) (fun _ h => .tail _ h)).mono (c' := 600000002) (by omega))
      clear h hi hlt HI hlti RG FP hf
      go_wp2_with fail
      refine (CQ.out _ _ _ _ _ _ _ H6.out.rebase (.head _)).mono ?_
      rintro e w6 ⟨rfl, k6⟩
      have H6' := Lib.hid (H6.out.no k6)
      clear k6 CQ H6
      go_wp2_with fail
      refine (LQ.out _ _ _ _ _ _ _ H6'.out.rebase (.head _) (by omega)).mono ?_
      rintro e w7 ⟨a7, c7, M7, ret, qk⟩
      obtain ⟨rfl, L7, f7⟩ := H6'.out.ret_step ret qk
      have H7 := Lib.hid f7
      clear ret qk f7 H6' LQ
      have P8 : Hid (PkAt (w7.alloc (.cells #[.int .u32 (p.src : Int), .int .u32 (p.dst : Int), .int .i64 p.proto, .int .i64 p.sport, .int .i64 p.dport] 48)) w7.heap.size p) := Lib.hid (PkAt.new w7 p _)
      have H8 := Lib.hid ((H7.out.no (Kp.alloc (.cells #[.int .u32 (p.src : Int), .int .u32 (p.dst : Int), .int .i64 p.proto, .int .i64 p.sport, .int .i64 p.dport] 48))).rebase)
      have T8 := Lib.hid ((CT.out _ H7.out.sd.kp).no (Kp.alloc (.cells #[.int .u32 (p.src : Int), .int .u32 (p.dst : Int), .int .i64 p.proto, .int .i64 p.sport, .int .i64 p.dport] 48)))
      have B8 : Hid (∀ b, L7.at pm b → w.heap.size + 2 ≤ b ∧ b < w7.heap.size) := Lib.hid (fun b hb => by
        have h1 := H7.out.rep.lt b hb
        have h3 := W4.out
        rcases H7.out.sd.fr b hb with h | h
        · have := B4'.out b h; omega
        · omega)
      clear H7 CT
      obtain ⟨c0, c1, c2, c3, c4⟩ := T8.out.pa
      go_wp2_with fail
      change Calls _ _ _ (w7.alloc (.cells #[.int .u32 (p.src : Int), .int .u32 (p.dst : Int), .int .i64 p.proto, .int .i64 p.sport, .int .i64 p.dport] 48)) _
      generalize w7.alloc (.cells #[.int .u32 (p.src : Int), .int .u32 (p.dst : Int), .int .i64 p.proto, .int .i64 p.sport, .int .i64 p.dport] 48) = w8 at *
      have CT : Hid (∀ y, Kp (L7.at pm) w8 y → Two2 w w.heap.size (w.heap.size + 1) p q y ∧ PkAt y w7.heap.size p) := Lib.hid (fun y ky => ⟨T8.out.mgr ky (fun b hb => (B8.out b hb).1) (by omega) (by omega) (by omega), P8.out.kp ky (fun hb => by have := (B8.out _ hb).2; omega)⟩)
      refine (PKP.out _ _ _ _ _ _ H8.out (by omega)).mono ?_
      intro e w9 h9
      obtain ⟨rn, M9, L9, rfl, _, f9⟩ := H8.out.step h9
      have H9 := Lib.hid f9
      clear h9 f9 H8 c0 c1 c2 c3 c4 T8 P8
      go_wp2_with fail
      refine (LN.out _ _ _ _ _ _ _ H9.out.rebase (.head _)).mono ?_
      rintro e w10 ⟨rfl, k10⟩
      have H10 := Lib.hid ((H9.out.no k10).no (Kp.alloc (.cells #[.int .u32 0, .int .u32 0, .int .i64 0, .int .i64 0, .int .i64 0] 48)))
      clear k10 H9 LN
      go_upto_region 15 with fail
      change Code.wp _ _ _ _ (w10.alloc (.cells #[.int .u32 0, .int .u32 0, .int .i64 0, .int .i64 0, .int .i64 0] 48))
      generalize w10.alloc (.cells #[.int .u32 0, .int .u32 0, .int .i64 0, .int .i64 0, .int .i64 0] 48) = w11 at *
      have EVV : Hid (pkF q true 5 (asg (gL (encF (fun _ => false) p q))) = true) := Lib.hid (by rw [pk_iff HQO.out true]; exact getP_enc (fun _ => false) HPO.out HQO.out true (fun v hv => gL_at _ hv))
      have CK : Hid (∀ y, Kp (L7.at pm) w8 y → y.cell? ⟨w.heap.size, 0, none⟩ = some (.int .u32 (p.src : Int)) ∧ y.cell? ⟨w.heap.size, 1, none⟩ = some (.int .u32 (p.dst : Int)) ∧ y.cell? ⟨w.heap.size, 2, none⟩ = some (.int .i64 p.proto) ∧ y.cell? ⟨w.heap.size, 3, none⟩ = some (.int .i64 p.sport) ∧ y.cell? ⟨w.heap.size, 4, none⟩ = some (.int .i64 p.dport) ∧ y.cell? ⟨w.heap.size + 1, 0, none⟩ = some (.int .u32 (q.src : Int)) ∧ y.cell? ⟨w.heap.size + 1, 1, none⟩ = some (.int .u32 (q.dst : Int)) ∧ y.cell? ⟨w.heap.size + 1, 2, none⟩ = some (.int .i64 q.proto) ∧ y.cell? ⟨w.heap.size + 1, 3, none⟩ = some (.int .i64 q.sport) ∧ y.cell? ⟨w.heap.size + 1, 4, none⟩ = some (.int .i64 q.dport) ∧ y.cell? ⟨w7.heap.size, 0, none⟩ = some (.int .u32 (p.src : Int)) ∧ y.cell? ⟨w7.heap.size, 1, none⟩ = some (.int .u32 (p.dst : Int)) ∧ y.cell? ⟨w7.heap.size, 2, none⟩ = some (.int .i64 p.proto) ∧ y.cell? ⟨w7.heap.size, 3, none⟩ = some (.int .i64 p.sport) ∧ y.cell? ⟨w7.heap.size, 4, none⟩ = some (.int .i64 p.dport)) := Lib.hid (fun y ky => by
        obtain ⟨t, e0, e1, e2, e3, e4⟩ := CT.out y ky
        obtain ⟨c0, c1, c2, c3, c4⟩ := t.pa
        obtain ⟨d0, d1, d2, d3, d4⟩ := t.pb
        exact ⟨c0, c1, c2, c3, c4, d0, d1, d2, d3, d4, e0, e1, e2, e3, e4⟩)
      have HD := Lib.hid ((H10.out.no Kp.drew).sub (B' := [(rn, pkF p true 5)]) (fun x hx => by rw [List.mem_singleton.1 hx]; exact .head _))
      have S0 := Lib.hid (CK.out _ HD.out.sd.kp)
      clear H10 VP VQ W4 B4' B8
      by_cases hpq : p = q
      · subst hpq
        go_region_held3 (fun y => y.cell? ⟨w.heap.size, 0, none⟩ = some (.int .u32 (p.src : Int)) ∧ y.cell? ⟨w.heap.size, 1, none⟩ = some (.int .u32 (p.dst : Int)) ∧ y.cell? ⟨w.heap.size, 2, none⟩ = some (.int .i64 p.proto) ∧ y.cell? ⟨w.heap.size, 3, none⟩ = some (.int .i64 p.sport) ∧ y.cell? ⟨w.heap.size, 4, none⟩ = some (.int .i64 p.dport) ∧ y.cell? ⟨w.heap.size + 1, 0, none⟩ = some (.int .u32 (p.src : Int)) ∧ y.cell? ⟨w.heap.size + 1, 1, none⟩ = some (.int .u32 (p.dst : Int)) ∧ y.cell? ⟨w.heap.size + 1, 2, none⟩ = some (.int .i64 p.proto) ∧ y.cell? ⟨w.heap.size + 1, 3, none⟩ = some (.int .i64 p.sport) ∧ y.cell? ⟨w.heap.size + 1, 4, none⟩ = some (.int .i64 p.dport) ∧ y.cell? ⟨w7.heap.size, 0, none⟩ = some (.int .u32 (p.src : Int)) ∧ y.cell? ⟨w7.heap.size, 1, none⟩ = some (.int .u32 (p.dst : Int)) ∧ y.cell? ⟨w7.heap.size, 2, none⟩ = some (.int .i64 p.proto) ∧ y.cell? ⟨w7.heap.size, 3, none⟩ = some (.int .i64 p.sport) ∧ y.cell? ⟨w7.heap.size, 4, none⟩ = some (.int .i64 p.dport)) (exact S0.out) (first | (go_at_call 25; have RC := PKP.out _ _ _ _ _ _ HD.out.rebase (by omega); (with_reducible refine RC.mono ?_); clear RC; intro e wa ha; (first | (have hr := HD.out.step_row ha ROW.out; obtain ⟨ra, Ma, La, rfl, _, fa, ro⟩ := hr; replace ROW := Lib.hid ro; clear ro) | (have hr := HD.out.step ha; obtain ⟨ra, Ma, La, rfl, _, fa⟩ := hr)); have er : rn = ra := fa.qk.eq (List.Mem.tail _ (List.Mem.head _)) (List.Mem.head _) (fun _ => rfl); subst er; replace HD := Lib.hid (fa.sub (fun _ h => List.Mem.tail _ h)); replace S0 := Lib.hid (CK.out _ HD.out.sd.kp); clear ha fa) | (go_at_call 29; (with_reducible refine (PPQ.out _ HD.out.gl).mono ?_); rintro e wp ⟨gp, rfl, row, kp⟩; have ROW := Lib.hid (And.intro row (fun b hb hA => by have h1 := (row.lt b hb).1; have h2 := HD.out.rep.lt b hA; omega)); replace HD := Lib.hid (HD.out.no kp); replace S0 := Lib.hid (CK.out _ HD.out.sd.kp); clear row kp) | (go_at_call 28; have EV := EvalQ HD.out.rep HD.out.qk (f := rn) (F := pkF p true 5) (List.Mem.head _) (bools_row ROW.out.1); rw [EVV.out] at EV; (with_reducible refine EV.mono ?_); clear EV; rintro e we ⟨rfl, ke⟩; replace HD := Lib.hid (HD.out.no ke); replace S0 := Lib.hid (CK.out _ HD.out.sd.kp); clear ke))
        all_goals
          have KP := Lib.hid (CT.out _ HD.out.sd.kp).1.kp
          clear HD S0 EVV PPQ CK CT
          go_wp2_with fail
          go_ret
          exact ⟨by simp, KP.out⟩
      · have HNE := Lib.hid hpq
        have EQP := eql_pk hpq
        unfold pktV at EQP
        have DIF := Lib.hid (fun (c : Nat) (M : Mgr) (B : List (Int × Bfn)) (f g : Int) (b : Qk 220 c M B) (hf : (f, pkF p true 5) ∈ B) (hg : (g, pkF q true 5) ∈ B) => pk_differ b HPO.out HQO.out true hf hg HNE.out)
        clear hpq
        go_region_held3 (fun y => y.cell? ⟨w.heap.size, 0, none⟩ = some (.int .u32 (p.src : Int)) ∧ y.cell? ⟨w.heap.size, 1, none⟩ = some (.int .u32 (p.dst : Int)) ∧ y.cell? ⟨w.heap.size, 2, none⟩ = some (.int .i64 p.proto) ∧ y.cell? ⟨w.heap.size, 3, none⟩ = some (.int .i64 p.sport) ∧ y.cell? ⟨w.heap.size, 4, none⟩ = some (.int .i64 p.dport) ∧ y.cell? ⟨w.heap.size + 1, 0, none⟩ = some (.int .u32 (q.src : Int)) ∧ y.cell? ⟨w.heap.size + 1, 1, none⟩ = some (.int .u32 (q.dst : Int)) ∧ y.cell? ⟨w.heap.size + 1, 2, none⟩ = some (.int .i64 q.proto) ∧ y.cell? ⟨w.heap.size + 1, 3, none⟩ = some (.int .i64 q.sport) ∧ y.cell? ⟨w.heap.size + 1, 4, none⟩ = some (.int .i64 q.dport) ∧ y.cell? ⟨w7.heap.size, 0, none⟩ = some (.int .u32 (p.src : Int)) ∧ y.cell? ⟨w7.heap.size, 1, none⟩ = some (.int .u32 (p.dst : Int)) ∧ y.cell? ⟨w7.heap.size, 2, none⟩ = some (.int .i64 p.proto) ∧ y.cell? ⟨w7.heap.size, 3, none⟩ = some (.int .i64 p.sport) ∧ y.cell? ⟨w7.heap.size, 4, none⟩ = some (.int .i64 p.dport)) (exact S0.out) (first | (go_at_call 25; first | (have RC := PKP.out _ _ _ _ _ _ HD.out.rebase (by omega); (with_reducible refine RC.mono ?_); clear RC; intro e wa ha; obtain ⟨ra, Ma, La, rfl, _, fa⟩ := HD.out.step ha; have er : rn = ra := fa.qk.eq (F := pkF p true 5) (by first | exact List.Mem.tail _ (List.Mem.head _) | exact List.Mem.tail _ (List.Mem.tail _ (List.Mem.head _))) (List.Mem.head _) (fun _ => rfl); subst er; replace HD := Lib.hid (fa.sub (fun _ h => List.Mem.tail _ h)); replace S0 := Lib.hid (CK.out _ HD.out.sd.kp); clear ha fa) | (have RC := PKQ.out _ _ _ _ _ _ HD.out.rebase (by omega); (with_reducible refine RC.mono ?_); clear RC; intro e wa ha; (first | (have hr := HD.out.step_row ha ROW.out; obtain ⟨ra, Ma, La, he, _, fa, ro⟩ := hr; have er : rq = ra := fa.qk.eq (List.Mem.tail _ (List.Mem.head _)) (List.Mem.head _) (fun _ => rfl); subst he; subst er; replace ROW := Lib.hid ro; replace HD := Lib.hid (fa.sub (fun _ h => List.Mem.tail _ h)); clear ro) | (have hr := HD.out.step ha; obtain ⟨ra, Ma, La, he, _, fa⟩ := hr; have er : rq = ra := fa.qk.eq (List.Mem.tail _ (List.Mem.head _)) (List.Mem.head _) (fun _ => rfl); subst he; subst er; replace HD := Lib.hid (fa.sub (fun _ h => List.Mem.tail _ h))) | (have hr := HD.out.step ha; obtain ⟨rq, Ma, La, he, _, fa⟩ := hr; subst he; have NE : ¬ rn = rq := DIF.out _ _ _ _ _ fa.qk (List.Mem.tail _ (List.Mem.head _)) (List.Mem.head _); have NEB : (rn == rq) = false := beq_false_of_ne NE; replace HD := Lib.hid fa)); replace S0 := Lib.hid (CK.out _ HD.out.sd.kp); clear ha fa)) | (go_at_call 29; (with_reducible refine (PPQ.out _ HD.out.gl).mono ?_); rintro e wp ⟨gp, rfl, row, kp⟩; have ROW := Lib.hid (And.intro row (fun b hb hA => by have h1 := (row.lt b hb).1; have h2 := HD.out.rep.lt b hA; omega)); replace HD := Lib.hid (HD.out.no kp); replace S0 := Lib.hid (CK.out _ HD.out.sd.kp); clear row kp) | (go_at_call 28; have EV := EvalQ HD.out.rep HD.out.qk (f := rq) (F := pkF q true 5) (List.Mem.head _) (bools_row ROW.out.1); rw [EVV.out] at EV; (with_reducible refine EV.mono ?_); clear EV; rintro e we ⟨rfl, ke⟩; replace HD := Lib.hid (HD.out.no ke); replace S0 := Lib.hid (CK.out _ HD.out.sd.kp); clear ke))
        all_goals
          have KP := Lib.hid (CT.out _ HD.out.sd.kp).1.kp
          clear HD S0 EVV PPQ CK CT
          go_wp2_with fail
          go_ret
          exact ⟨by simp, KP.out⟩

end Go.Proofs.YtohinonkfhkclaaDoor
