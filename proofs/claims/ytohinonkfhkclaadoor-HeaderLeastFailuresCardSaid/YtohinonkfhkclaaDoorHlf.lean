/-
  Walks: the law HeaderLeastFailures.
-/
import Derived.Test.YtohinonkfhkclaaDoorHlo
import Derived.Test.YtohinonkfhkclaaDoorHll
namespace Go.Proofs.YtohinonkfhkclaaDoor
open Go.RowKit

theorem bit_yes16 {x s : Nat} (hx : x < 65536) (h : x.testBit s = true) : bits BinOp.and IntKind.u16 ((x : Int) / 2 ^ s) 1 = 1 := by rw [bit_val16 hx, h]; rfl
theorem bit_no16 {x s : Nat} (hx : x < 65536) (h : x.testBit s = false) : bits BinOp.and IntKind.u16 ((x : Int) / 2 ^ s) 1 = 0 := by rw [bit_val16 hx, h]; rfl
def HfC (w4 : World) (pm : Nat) (L4 : Lay) (A B : Nat) (p q : Pkt) (s10 s11 : Value) (x : World) : Prop :=
  ∃ f g M L, s10 = .int .i64 f ∧ s11 = .int .i64 g ∧ Hf w4 pm L4 220 300000000 x M L [(f, cF A p 0), (g, cF B q 0)]
def HfI (w4 : World) (pm : Nat) (L4 : Lay) (A B : Nat) (p q : Pkt) (gk : Nat) (s10 s11 s12 : Value) (x : World) : Prop :=
  ∃ i f g M L, i + gk = 12 ∧ s10 = .int .i64 f ∧ s11 = .int .i64 g ∧ s12 = .int .i64 (i : Int) ∧ Hf w4 pm L4 220 (300000000 + i * 100000) x M L [(f, cF A p i), (g, cF B q i)]
def HfJ (w5 : World) (A B : Nat) (gk : Nat) (s16 s17 : Value) (x : World) : Prop :=
  ∃ i, i + gk = 12 ∧ s16 = .int .u16 (A : Int) ∧ s17 = .int .i64 (i : Int) ∧ (∀ j, j < i → A.testBit j = B.testBit j) ∧ Kp No w5 x
def HfD (w4 : World) (pm : Nat) (L4 : Lay) (bw : Nat) (A B : Nat) (p q : Pkt) (M : Mgr) (L : Lay) (f g : Int) (s16 : Value) (x : World) : Prop :=
  ∃ S z, s16 = .int .u16 ((S : Nat) : Int) ∧ S < 65536 ∧ ((lkN A < lkN B ∧ z = p ∧ S = A) ∨ (lkN B < lkN A ∧ z = q ∧ S = B) ∨ ((∀ v, v < 12 → A.testBit v = B.testBit v) ∧ z = p ∧ S = A)) ∧ Hf w4 pm L4 220 302000000 x M L [(f, cF A p 12), (g, cF B q 12)] ∧ BkAt x bw z
def HfE (w4 : World) (pm : Nat) (L4 : Lay) (bw : Nat) (A B : Nat) (p q z' : Pkt) (M : Mgr) (L : Lay) (f g : Int) (x : World) : Prop :=
  Hf w4 pm L4 220 302000000 x M L [(f, cF A p 12), (g, cF B q 12)] ∧ BkAt x bw z'
def HfK (w9 : World) (S : Nat) (gk : Nat) (s24 s25 : Value) (x : World) : Prop :=
  ∃ i, i + gk = 12 ∧ s24 = .int .i64 (((dnL (tb S) i).length : Nat) : Int) ∧ s25 = .int .i64 (i : Int) ∧ Kp No w9 x

set_option maxRecDepth 1000000 in
set_option maxHeartbeats 16000000 in
theorem HeaderLeastFailures_walk (A B : Nat) (p q : Pkt) (hA : A < 65536) (hB : B < 65536) (hp : p.in32) (hq : q.in32) {w : World} (g : Gl w) :
    Calls Tryd.prog 9 #[.int .u16 (A : Int), .int .u16 (B : Int), pktV p, pktV q] w fun e w' => e = .returned (.bool true) ∧ Kp No w w' := by
  have T0 := Lib.hid (Two2.new2 g p q)
  have GW := Lib.hid g
  clear g
  have AW := Lib.hid (fun (y : World) (h : Gl y) => hawake_ok h)
  have VP := Lib.hid (fun (y : World) => ValidPacket_ok p y)
  have VQ := Lib.hid (fun (y : World) => ValidPacket_ok q y)
  cases hvp : vpB p
  · rw [hvp] at VP
    clear hvp
    unfold pktV at VP VQ ⊢
    go_enter Tryd.func9, Tryd.ntmps9
    go_wp2_with fail
    refine (AW.out _ T0.out.gl).mono ?_
    rintro e w1 ⟨rfl, k1⟩
    have T1 := Lib.hid (T0.out.no k1)
    clear k1 T0
    obtain ⟨c0, c1, c2, c3, c4⟩ := T1.out.pa
    go_wp2_with fail
    refine (VP.out _).mono ?_
    rintro e w2 ⟨rfl, k2⟩
    have T2 := Lib.hid (T1.out.no k2)
    clear k2 T1 c0 c1 c2 c3 c4
    go_wp2_with fail
    go_ret
    exact ⟨rfl, T2.out.kp⟩
  rw [hvp] at VP
  have hpo := vpB_true hp hvp
  cases hvq : vpB q
  · rw [hvq] at VQ
    clear hvq hvp hpo
    unfold pktV at VP VQ ⊢
    go_enter Tryd.func9, Tryd.ntmps9
    go_wp2_with fail
    refine (AW.out _ T0.out.gl).mono ?_
    rintro e w1 ⟨rfl, k1⟩
    have T1 := Lib.hid (T0.out.no k1)
    clear k1 T0
    obtain ⟨c0, c1, c2, c3, c4⟩ := T1.out.pa
    go_wp2_with fail
    refine (VP.out _).mono ?_
    rintro e w2 ⟨rfl, k2⟩
    have T2 := Lib.hid (T1.out.no k2)
    clear k2 T1 c0 c1 c2 c3 c4
    obtain ⟨d0, d1, d2, d3, d4⟩ := T2.out.pb
    go_wp2_with fail
    refine (VQ.out _).mono ?_
    rintro e w3 ⟨rfl, k3⟩
    have T3 := Lib.hid (T2.out.no k3)
    clear k3 T2 d0 d1 d2 d3 d4
    go_wp2_with fail
    go_ret
    exact ⟨rfl, T3.out.kp⟩
  rw [hvq] at VQ
  have hqo := vpB_true hq hvq
  have NEW := Lib.hid (fun (y : World) => HNew_ok y)
  clear hvp hvq
  have HPO := Lib.hid hpo
  have HQO := Lib.hid hqo
  have PKP := Lib.hid (fun (c : Nat) (M : Mgr) (L : Lay) (B : List (Int × Bfn)) (y : World) (pm : Nat) (f : Hf y pm L 220 c y M L B) (hc : c ≤ 400000000000) => Packet_ok p hp false f.rep f.qk f.gl f.off hc)
  have PKQ := Lib.hid (fun (c : Nat) (M : Mgr) (L : Lay) (B : List (Int × Bfn)) (y : World) (pm : Nat) (f : Hf y pm L 220 c y M L B) (hc : c ≤ 400000000000) => Packet_ok q hq false f.rep f.qk f.gl f.off hc)
  have LS := Lib.hid (fun (y : World) => less_ok hqo hpo y)
  clear hpo hqo hp hq
  unfold pktV at *
  go_enter Tryd.func9, Tryd.ntmps9
  go_wp2_with fail
  refine (AW.out _ T0.out.gl).mono ?_
  rintro e w1 ⟨rfl, k1⟩
  have T1 := Lib.hid (T0.out.no k1)
  clear k1 T0
  obtain ⟨c0, c1, c2, c3, c4⟩ := T1.out.pa
  go_wp2_with fail
  refine (VP.out _).mono ?_
  rintro e w2 ⟨rfl, k2⟩
  have T2 := Lib.hid (T1.out.no k2)
  clear k2 T1 c0 c1 c2 c3 c4
  obtain ⟨d0, d1, d2, d3, d4⟩ := T2.out.pb
  go_wp2_with fail
  refine (VQ.out _).mono ?_
  rintro e w3 ⟨rfl, k3⟩
  have T3 := Lib.hid (T2.out.no k3)
  clear k3 T2 d0 d1 d2 d3 d4
  go_wp2_with fail
  refine (NEW.out _).mono ?_
  rintro e w4 ⟨pm, L4, rfl, R4, k4, o4⟩
  have T4 := Lib.hid (T3.out.no k4)
  have H4 := Lib.hid (hf_new T3.out.gl (Kp.refl No w3) R4 k4 o4)
  have O4 : Hid (∀ x, L4.at pm x → w.heap.size ≤ x) := Lib.hid (fun x hx => by have := o4 x hx; have := T3.out.kp.size; omega)
  have B4 : Hid (∀ x, L4.at pm x → w3.heap.size ≤ x) := Lib.hid o4
  clear R4 k4 o4 NEW
  have B4' : Hid (∀ b, L4.at pm b → w.heap.size + 2 ≤ b) := Lib.hid (fun b hb => by have := B4.out b hb; have := T3.out.pb.lt; omega)
  have CT : Hid (∀ y, Kp (L4.at pm) w4 y → Two2 w w.heap.size (w.heap.size + 1) p q y) := Lib.hid (fun y ky => T4.out.mgr ky B4'.out (by omega) (by omega) (by omega))
  have W4 : Hid (w.heap.size + 2 ≤ w4.heap.size) := Lib.hid (by have := T4.out.pb.lt; omega)
  have CK : Hid (∀ y, Kp (L4.at pm) w4 y → y.cell? ⟨w.heap.size, 0, none⟩ = some (.int .u32 (p.src : Int)) ∧ y.cell? ⟨w.heap.size, 1, none⟩ = some (.int .u32 (p.dst : Int)) ∧ y.cell? ⟨w.heap.size, 2, none⟩ = some (.int .i64 p.proto) ∧ y.cell? ⟨w.heap.size, 3, none⟩ = some (.int .i64 p.sport) ∧ y.cell? ⟨w.heap.size, 4, none⟩ = some (.int .i64 p.dport) ∧ y.cell? ⟨w.heap.size + 1, 0, none⟩ = some (.int .u32 (q.src : Int)) ∧ y.cell? ⟨w.heap.size + 1, 1, none⟩ = some (.int .u32 (q.dst : Int)) ∧ y.cell? ⟨w.heap.size + 1, 2, none⟩ = some (.int .i64 q.proto) ∧ y.cell? ⟨w.heap.size + 1, 3, none⟩ = some (.int .i64 q.sport) ∧ y.cell? ⟨w.heap.size + 1, 4, none⟩ = some (.int .i64 q.dport)) := Lib.hid (fun y ky => by
    have t := CT.out y ky
    obtain ⟨c0, c1, c2, c3, c4⟩ := t.pa
    obtain ⟨d0, d1, d2, d3, d4⟩ := t.pb
    exact ⟨c0, c1, c2, c3, c4, d0, d1, d2, d3, d4⟩)
  clear T3 O4 B4 T4 VP VQ
  go_upto_region 6 with fail
  go_cut [10, 11] (fun s10 s11 x => HfC w4 pm L4 A B p q s10 s11 x)
  case first =>
    have HD := Lib.hid (H4.out.no Kp.drew)
    have S0 := Lib.hid (CK.out _ HD.out.sd.kp)
    clear H4 LS
    go_region_held3 (fun y => y.cell? ⟨w.heap.size, 0, none⟩ = some (.int .u32 (p.src : Int)) ∧ y.cell? ⟨w.heap.size, 1, none⟩ = some (.int .u32 (p.dst : Int)) ∧ y.cell? ⟨w.heap.size, 2, none⟩ = some (.int .i64 p.proto) ∧ y.cell? ⟨w.heap.size, 3, none⟩ = some (.int .i64 p.sport) ∧ y.cell? ⟨w.heap.size, 4, none⟩ = some (.int .i64 p.dport) ∧ y.cell? ⟨w.heap.size + 1, 0, none⟩ = some (.int .u32 (q.src : Int)) ∧ y.cell? ⟨w.heap.size + 1, 1, none⟩ = some (.int .u32 (q.dst : Int)) ∧ y.cell? ⟨w.heap.size + 1, 2, none⟩ = some (.int .i64 q.proto) ∧ y.cell? ⟨w.heap.size + 1, 3, none⟩ = some (.int .i64 q.sport) ∧ y.cell? ⟨w.heap.size + 1, 4, none⟩ = some (.int .i64 q.dport)) (exact S0.out) (first | (go_at_call 25; first | (have RC := PKP.out _ _ _ _ _ _ HD.out.rebase (by omega); (with_reducible refine RC.mono ?_); clear RC; intro e wa ha; have hr := HD.out.step ha; obtain ⟨fp, Ma, La, rfl, _, fa⟩ := hr; replace HD := Lib.hid fa; replace S0 := Lib.hid (CK.out _ HD.out.sd.kp); clear ha fa) | (have RC := PKQ.out _ _ _ _ _ _ HD.out.rebase (by omega); (with_reducible refine RC.mono ?_); clear RC; intro e wa ha; have hr := HD.out.step ha; obtain ⟨fq, Ma, La, rfl, _, fa⟩ := hr; replace HD := Lib.hid fa; replace S0 := Lib.hid (CK.out _ HD.out.sd.kp); clear ha fa)))
    all_goals
      have CE : Hid (Hf w4 pm L4 220 300000000 wa Ma La [(fp, cF A p 0), (fq, cF B q 0)]) := Lib.hid (by
        have e1 := funext (cF_zero HPO.out A)
        have e2 := funext (cF_zero HQO.out B)
        have h := HD.out
        rw [e1, e2] at h
        exact (h.sub (fun y hy => by
          rcases List.mem_cons.1 hy with rfl | hy
          · first | exact .head _ | exact .tail _ (.head _)
          · rw [List.mem_singleton.1 hy]; first | exact .head _ | exact .tail _ (.head _))).mono (by omega))
      clear HD S0 PKP PKQ
      go_wp2_with fail
      go_meet
      case rel => exact ⟨fp, fq, Ma, La, rfl, rfl, CE.out⟩
  case rest =>
  obtain ⟨f, g, M5, L5, e10, e11, h5⟩ := hcut
  subst e10 e11
  have J0 : Hid (HfI w4 pm L4 A B p q 12 (.int .i64 f) (.int .i64 g) (.int .i64 0) wc) := Lib.hid ⟨0, f, g, M5, L5, by omega, rfl, rfl, rfl, h5.mono (by omega)⟩
  clear h5 PKP PKQ H4
  go_wp2_with fail
  go_loopg [10, 11, 12] 12 (fun gk s10 s11 s12 x => HfI w4 pm L4 A B p q gk s10 s11 s12 x)
  case atStart => exact J0.out
  case round =>
    clear J0
    obtain ⟨i, f, g, M1, L1, hi, rfl, rfl, rfl, h⟩ := hrel
    have HI := Lib.hid hi
    have H := Lib.hid h
    by_cases hlt : i < 12
    · have hlti : (i : Int) < 12 := by omega
      have hi0 : (0 : Int) ≤ (i : Int) := by omega
      have V1 := Lib.hid (VarQ H.out.rep H.out.qk (v := i) (by omega) (by omega))
      have PV := Lib.hid (PSt.var 220 i (by omega))
      clear h hi
      cases ha : A.testBit i
      · cases hb : B.testBit i
        · have SA : Hid (∀ a, (cF A p i a && !a i) = cF A p (i + 1) a) := Lib.hid (cF_f hlt ha)
          have SB : Hid (∀ a, (cF B q i a && !a i) = cF B q (i + 1) a) := Lib.hid (cF_f hlt hb)
          have PA := Lib.hid ((cF_st A p (i + 1)).congr SA.out)
          have PB := Lib.hid ((cF_st B q (i + 1)).congr SB.out)
          have VA := bit_no16 (s := i) hA ha
          have VB := bit_no16 (s := i) hB hb
          clear ha hb hlt
          go_wp2_with fail
          refine (V1.out).mono ?_
          intro e v1 o1
          obtain ⟨x0, N1, K1, rfl, _, q1⟩ := H.out.step o1
          have H1 := Lib.hid q1
          clear o1 q1 H
          go_wp2_with fail
          refine (VarQ H1.out.rep H1.out.qk (v := i) (by have := HI.out; omega) (by have := HI.out; omega)).mono ?_
          intro e v2 o2
          obtain ⟨y0, N2, K2, rfl, _, q2⟩ := H1.out.step o2
          have H2 := Lib.hid q2
          clear o2 q2 H1
          go_wp2_with fail
          refine (NotQ H2.out.rep H2.out.qk (f := x0) (F := fun a => a i) (.tail _ (.head _)) PV.out (by have := HI.out; omega)).mono ?_
          intro e v3 o3
          obtain ⟨x1, N3, K3, rfl, _, q3⟩ := H2.out.step o3
          have H3 := Lib.hid q3
          clear o3 q3 H2
          go_wp2_with fail
          refine (NotQ H3.out.rep H3.out.qk (f := y0) (F := fun a => a i) (.tail _ (.head _)) PV.out (by have := HI.out; omega)).mono ?_
          intro e v4 o4
          obtain ⟨y1, N4, K4, rfl, _, q4⟩ := H3.out.step o4
          have H4 := Lib.hid q4
          clear o4 q4 H3
          go_wp2_with fail
          refine (AndQ H4.out.rep H4.out.qk (f := f) (F := cF A p i) (g := x1) (G := fun a => !a i) (.tail _ (.tail _ (.tail _ (.tail _ (.head _))))) (.tail _ (.head _)) PA.out (by have := HI.out; omega)).mono ?_
          intro e v5 o5
          obtain ⟨f2, N5, K5, rfl, _, q5⟩ := H4.out.step o5
          have H5 := Lib.hid q5
          clear o5 q5 H4
          go_wp2_with fail
          refine (AndQ H5.out.rep H5.out.qk (f := g) (F := cF B q i) (g := y1) (G := fun a => !a i) (.tail _ (.tail _ (.tail _ (.tail _ (.tail _ (.tail _ (.head _))))))) (.tail _ (.head _)) PB.out (by have := HI.out; omega)).mono ?_
          intro e v6 o6
          obtain ⟨g2, N6, K6, rfl, _, q6⟩ := H5.out.step o6
          have H6 := Lib.hid q6
          clear o6 q6 H5
          have JN : Hid (HfI w4 pm L4 A B p q (12 - (i + 1)) (.int .i64 f2) (.int .i64 g2) (.int .i64 ((i + 1 : Nat) : Int)) v6) := Lib.hid ⟨i + 1, f2, g2, _, _, by have := HI.out; omega, rfl, rfl, rfl, by
            have hh := H6.out
            rw [funext SA.out, funext SB.out] at hh
            exact (hh.sub (fun y hy => by
              rcases List.mem_cons.1 hy with rfl | hy
              · exact .tail _ (.head _)
              · rw [List.mem_singleton.1 hy]; exact .head _)).mono (by omega)⟩
          clear H6 SA SB PA PB
          go_wp2_with fail
          go_roundg (12 - (i + 1))
          case measure => have := HI.out; omega
          case rel => exact JN.out
        · have SA : Hid (∀ a, (cF A p i a && !a i) = cF A p (i + 1) a) := Lib.hid (cF_f hlt ha)
          have SB : Hid (∀ a, (cF B q i a && a i) = cF B q (i + 1) a) := Lib.hid (cF_t hlt hb)
          have PA := Lib.hid ((cF_st A p (i + 1)).congr SA.out)
          have PB := Lib.hid ((cF_st B q (i + 1)).congr SB.out)
          have VA := bit_no16 (s := i) hA ha
          have VB := bit_yes16 (s := i) hB hb
          clear ha hb hlt
          go_wp2_with fail
          refine (V1.out).mono ?_
          intro e v1 o1
          obtain ⟨x0, N1, K1, rfl, _, q1⟩ := H.out.step o1
          have H1 := Lib.hid q1
          clear o1 q1 H
          go_wp2_with fail
          refine (VarQ H1.out.rep H1.out.qk (v := i) (by have := HI.out; omega) (by have := HI.out; omega)).mono ?_
          intro e v2 o2
          obtain ⟨y0, N2, K2, rfl, _, q2⟩ := H1.out.step o2
          have H2 := Lib.hid q2
          clear o2 q2 H1
          go_wp2_with fail
          refine (NotQ H2.out.rep H2.out.qk (f := x0) (F := fun a => a i) (.tail _ (.head _)) PV.out (by have := HI.out; omega)).mono ?_
          intro e v3 o3
          obtain ⟨x1, N3, K3, rfl, _, q3⟩ := H2.out.step o3
          have H3 := Lib.hid q3
          clear o3 q3 H2
          go_wp2_with fail
          refine (AndQ H3.out.rep H3.out.qk (f := f) (F := cF A p i) (g := x1) (G := fun a => !a i) (.tail _ (.tail _ (.tail _ (.head _)))) (.head _) PA.out (by have := HI.out; omega)).mono ?_
          intro e v4 o4
          obtain ⟨f2, N4, K4, rfl, _, q4⟩ := H3.out.step o4
          have H4 := Lib.hid q4
          clear o4 q4 H3
          go_wp2_with fail
          refine (AndQ H4.out.rep H4.out.qk (f := g) (F := cF B q i) (g := y0) (G := fun a => a i) (.tail _ (.tail _ (.tail _ (.tail _ (.tail _ (.head _)))))) (.tail _ (.tail _ (.head _))) PB.out (by have := HI.out; omega)).mono ?_
          intro e v5 o5
          obtain ⟨g2, N5, K5, rfl, _, q5⟩ := H4.out.step o5
          have H5 := Lib.hid q5
          clear o5 q5 H4
          have JN : Hid (HfI w4 pm L4 A B p q (12 - (i + 1)) (.int .i64 f2) (.int .i64 g2) (.int .i64 ((i + 1 : Nat) : Int)) v5) := Lib.hid ⟨i + 1, f2, g2, _, _, by have := HI.out; omega, rfl, rfl, rfl, by
            have hh := H5.out
            rw [funext SA.out, funext SB.out] at hh
            exact (hh.sub (fun y hy => by
              rcases List.mem_cons.1 hy with rfl | hy
              · exact .tail _ (.head _)
              · rw [List.mem_singleton.1 hy]; exact .head _)).mono (by omega)⟩
          clear H5 SA SB PA PB
          go_wp2_with fail
          go_roundg (12 - (i + 1))
          case measure => have := HI.out; omega
          case rel => exact JN.out
      · cases hb : B.testBit i
        · have SA : Hid (∀ a, (cF A p i a && a i) = cF A p (i + 1) a) := Lib.hid (cF_t hlt ha)
          have SB : Hid (∀ a, (cF B q i a && !a i) = cF B q (i + 1) a) := Lib.hid (cF_f hlt hb)
          have PA := Lib.hid ((cF_st A p (i + 1)).congr SA.out)
          have PB := Lib.hid ((cF_st B q (i + 1)).congr SB.out)
          have VA := bit_yes16 (s := i) hA ha
          have VB := bit_no16 (s := i) hB hb
          clear ha hb hlt
          go_wp2_with fail
          refine (V1.out).mono ?_
          intro e v1 o1
          obtain ⟨x0, N1, K1, rfl, _, q1⟩ := H.out.step o1
          have H1 := Lib.hid q1
          clear o1 q1 H
          go_wp2_with fail
          refine (VarQ H1.out.rep H1.out.qk (v := i) (by have := HI.out; omega) (by have := HI.out; omega)).mono ?_
          intro e v2 o2
          obtain ⟨y0, N2, K2, rfl, _, q2⟩ := H1.out.step o2
          have H2 := Lib.hid q2
          clear o2 q2 H1
          go_wp2_with fail
          refine (NotQ H2.out.rep H2.out.qk (f := y0) (F := fun a => a i) (.head _) PV.out (by have := HI.out; omega)).mono ?_
          intro e v3 o3
          obtain ⟨y1, N3, K3, rfl, _, q3⟩ := H2.out.step o3
          have H3 := Lib.hid q3
          clear o3 q3 H2
          go_wp2_with fail
          refine (AndQ H3.out.rep H3.out.qk (f := f) (F := cF A p i) (g := x0) (G := fun a => a i) (.tail _ (.tail _ (.tail _ (.head _)))) (.tail _ (.tail _ (.head _))) PA.out (by have := HI.out; omega)).mono ?_
          intro e v4 o4
          obtain ⟨f2, N4, K4, rfl, _, q4⟩ := H3.out.step o4
          have H4 := Lib.hid q4
          clear o4 q4 H3
          go_wp2_with fail
          refine (AndQ H4.out.rep H4.out.qk (f := g) (F := cF B q i) (g := y1) (G := fun a => !a i) (.tail _ (.tail _ (.tail _ (.tail _ (.tail _ (.head _)))))) (.tail _ (.head _)) PB.out (by have := HI.out; omega)).mono ?_
          intro e v5 o5
          obtain ⟨g2, N5, K5, rfl, _, q5⟩ := H4.out.step o5
          have H5 := Lib.hid q5
          clear o5 q5 H4
          have JN : Hid (HfI w4 pm L4 A B p q (12 - (i + 1)) (.int .i64 f2) (.int .i64 g2) (.int .i64 ((i + 1 : Nat) : Int)) v5) := Lib.hid ⟨i + 1, f2, g2, _, _, by have := HI.out; omega, rfl, rfl, rfl, by
            have hh := H5.out
            rw [funext SA.out, funext SB.out] at hh
            exact (hh.sub (fun y hy => by
              rcases List.mem_cons.1 hy with rfl | hy
              · exact .tail _ (.head _)
              · rw [List.mem_singleton.1 hy]; exact .head _)).mono (by omega)⟩
          clear H5 SA SB PA PB
          go_wp2_with fail
          go_roundg (12 - (i + 1))
          case measure => have := HI.out; omega
          case rel => exact JN.out
        · have SA : Hid (∀ a, (cF A p i a && a i) = cF A p (i + 1) a) := Lib.hid (cF_t hlt ha)
          have SB : Hid (∀ a, (cF B q i a && a i) = cF B q (i + 1) a) := Lib.hid (cF_t hlt hb)
          have PA := Lib.hid ((cF_st A p (i + 1)).congr SA.out)
          have PB := Lib.hid ((cF_st B q (i + 1)).congr SB.out)
          have VA := bit_yes16 (s := i) hA ha
          have VB := bit_yes16 (s := i) hB hb
          clear ha hb hlt
          go_wp2_with fail
          refine (V1.out).mono ?_
          intro e v1 o1
          obtain ⟨x0, N1, K1, rfl, _, q1⟩ := H.out.step o1
          have H1 := Lib.hid q1
          clear o1 q1 H
          go_wp2_with fail
          refine (VarQ H1.out.rep H1.out.qk (v := i) (by have := HI.out; omega) (by have := HI.out; omega)).mono ?_
          intro e v2 o2
          obtain ⟨y0, N2, K2, rfl, _, q2⟩ := H1.out.step o2
          have H2 := Lib.hid q2
          clear o2 q2 H1
          go_wp2_with fail
          refine (AndQ H2.out.rep H2.out.qk (f := f) (F := cF A p i) (g := x0) (G := fun a => a i) (.tail _ (.tail _ (.head _))) (.tail _ (.head _)) PA.out (by have := HI.out; omega)).mono ?_
          intro e v3 o3
          obtain ⟨f2, N3, K3, rfl, _, q3⟩ := H2.out.step o3
          have H3 := Lib.hid q3
          clear o3 q3 H2
          go_wp2_with fail
          refine (AndQ H3.out.rep H3.out.qk (f := g) (F := cF B q i) (g := y0) (G := fun a => a i) (.tail _ (.tail _ (.tail _ (.tail _ (.head _))))) (.tail _ (.head _)) PB.out (by have := HI.out; omega)).mono ?_
          intro e v4 o4
          obtain ⟨g2, N4, K4, rfl, _, q4⟩ := H3.out.step o4
          have H4 := Lib.hid q4
          clear o4 q4 H3
          have JN : Hid (HfI w4 pm L4 A B p q (12 - (i + 1)) (.int .i64 f2) (.int .i64 g2) (.int .i64 ((i + 1 : Nat) : Int)) v4) := Lib.hid ⟨i + 1, f2, g2, _, _, by have := HI.out; omega, rfl, rfl, rfl, by
            have hh := H4.out
            rw [funext SA.out, funext SB.out] at hh
            exact (hh.sub (fun y hy => by
              rcases List.mem_cons.1 hy with rfl | hy
              · exact .tail _ (.head _)
              · rw [List.mem_singleton.1 hy]; exact .head _)).mono (by omega)⟩
          clear H4 SA SB PA PB
          go_wp2_with fail
          go_roundg (12 - (i + 1))
          case measure => have := HI.out; omega
          case rel => exact JN.out
    · obtain rfl : i = 12 := by omega
      have hlti : ¬ ((12 : Nat) : Int) < 12 := by omega
      have P5 : Hid (BkAt (wr.alloc (.cells #[.int .u32 (p.src : Int), .int .u32 (p.dst : Int), .int .i64 p.proto, .int .i64 p.sport, .int .i64 p.dport] 48)) wr.heap.size p) := Lib.hid (BkAt.new wr p)
      have H5 := Lib.hid ((h.no (Kp.alloc (.cells #[.int .u32 (p.src : Int), .int .u32 (p.dst : Int), .int .i64 p.proto, .int .i64 p.sport, .int .i64 p.dport] 48))).mono (c' := 302000000) (by omega))
      have NB : Hid (¬ L1.at pm wr.heap.size) := Lib.hid (fun hh => by have := h.rep.lt _ hh; omega)
      have BW : Hid (w4.heap.size ≤ wr.heap.size) := Lib.hid h.sd.kp.size
      obtain ⟨c0, c1, c2, c3, c4⟩ := (CT.out _ h.sd.kp).pa
      clear h hi hlt HI hlti H
      go_upto_block 2 with fail
      change Code.wp _ _ _ _ (wr.alloc (.cells #[.int .u32 (p.src : Int), .int .u32 (p.dst : Int), .int .i64 p.proto, .int .i64 p.sport, .int .i64 p.dport] 48))
      generalize hbw : wr.heap.size = bw at *
      generalize wr.alloc (.cells #[.int .u32 (p.src : Int), .int .u32 (p.dst : Int), .int .i64 p.proto, .int .i64 p.sport, .int .i64 p.dport] 48) = w5 at *
      clear c0 c1 c2 c3 c4 hbw
      have HA := Lib.hid hA
      have HB := Lib.hid hB
      have G5 : Hid (0 < w4.heap.size) := Lib.hid (by have h1 := GW.out.lt; have h2 := W4.out; omega)
      go_cut [16] (fun s16 x => HfD w4 pm L4 bw A B p q M1 L1 f g s16 x)
      case first =>
        go_wp2_with fail
        have J2 : Hid (HfJ w5 A B 12 (.int .u16 (A : Int)) (.int .i64 0) w5) := Lib.hid ⟨0, by omega, rfl, rfl, fun j hj => by omega, Kp.refl _ _⟩
        go_loopg [16, 17] 12 (fun gk s16 s17 x => HfJ w5 A B gk s16 s17 x)
        case atStart => exact J2.out
        case round =>
          clear J2
          obtain ⟨i, hi, rfl, rfl, he, kp⟩ := hrel
          have HI := Lib.hid hi
          by_cases hlt : i < 12
          · have hlti : (i : Int) < 12 := by omega
            have hi0 : (0 : Int) ≤ (i : Int) := by omega
            have S0 : Hid (wr.drew.cell? ⟨w.heap.size, 0, none⟩ = some (.int .u32 (p.src : Int)) ∧ wr.drew.cell? ⟨w.heap.size, 1, none⟩ = some (.int .u32 (p.dst : Int)) ∧ wr.drew.cell? ⟨w.heap.size, 2, none⟩ = some (.int .i64 p.proto) ∧ wr.drew.cell? ⟨w.heap.size, 3, none⟩ = some (.int .i64 p.sport) ∧ wr.drew.cell? ⟨w.heap.size, 4, none⟩ = some (.int .i64 p.dport) ∧ wr.drew.cell? ⟨w.heap.size + 1, 0, none⟩ = some (.int .u32 (q.src : Int)) ∧ wr.drew.cell? ⟨w.heap.size + 1, 1, none⟩ = some (.int .u32 (q.dst : Int)) ∧ wr.drew.cell? ⟨w.heap.size + 1, 2, none⟩ = some (.int .i64 q.proto) ∧ wr.drew.cell? ⟨w.heap.size + 1, 3, none⟩ = some (.int .i64 q.sport) ∧ wr.drew.cell? ⟨w.heap.size + 1, 4, none⟩ = some (.int .i64 q.dport) ∧ wr.drew.cell? ⟨bw, 0, none⟩ = some (.int .u32 (p.src : Int)) ∧ wr.drew.cell? ⟨bw, 1, none⟩ = some (.int .u32 (p.dst : Int)) ∧ wr.drew.cell? ⟨bw, 2, none⟩ = some (.int .i64 p.proto) ∧ wr.drew.cell? ⟨bw, 3, none⟩ = some (.int .i64 p.sport) ∧ wr.drew.cell? ⟨bw, 4, none⟩ = some (.int .i64 p.dport)) := Lib.hid (by
              have k2 := kp.trans_no (Kp.drew (w := wr))
              obtain ⟨c0, c1, c2, c3, c4, d0, d1, d2, d3, d4⟩ := CK.out _ (H5.out.sd.kp.trans_no k2)
              obtain ⟨b0, b1, b2, b3, b4⟩ := (P5.out.no k2).at
              exact ⟨c0, c1, c2, c3, c4, d0, d1, d2, d3, d4, b0, b1, b2, b3, b4⟩)
            cases ha : A.testBit i
            · cases hb : B.testBit i
              · have VA := bit_no16 (s := i) hA ha
                have VB := bit_no16 (s := i) hB hb
                have JN : Hid (HfJ w5 A B (12 - (i + 1)) (.int .u16 (A : Int)) (.int .i64 ((i + 1 : Nat) : Int)) wr.drew) := Lib.hid ⟨i + 1, by omega, rfl, rfl, fun j hj => by
                  by_cases e : j = i
                  · rw [e, ha, hb]
                  · exact he j (by omega), kp.trans_no Kp.drew⟩
                clear ha hb he kp hi
                go_upto_region 21 with fail
                go_region_held3 (fun y => y.cell? ⟨w.heap.size, 0, none⟩ = some (.int .u32 (p.src : Int)) ∧ y.cell? ⟨w.heap.size, 1, none⟩ = some (.int .u32 (p.dst : Int)) ∧ y.cell? ⟨w.heap.size, 2, none⟩ = some (.int .i64 p.proto) ∧ y.cell? ⟨w.heap.size, 3, none⟩ = some (.int .i64 p.sport) ∧ y.cell? ⟨w.heap.size, 4, none⟩ = some (.int .i64 p.dport) ∧ y.cell? ⟨w.heap.size + 1, 0, none⟩ = some (.int .u32 (q.src : Int)) ∧ y.cell? ⟨w.heap.size + 1, 1, none⟩ = some (.int .u32 (q.dst : Int)) ∧ y.cell? ⟨w.heap.size + 1, 2, none⟩ = some (.int .i64 q.proto) ∧ y.cell? ⟨w.heap.size + 1, 3, none⟩ = some (.int .i64 q.sport) ∧ y.cell? ⟨w.heap.size + 1, 4, none⟩ = some (.int .i64 q.dport) ∧ y.cell? ⟨bw, 0, none⟩ = some (.int .u32 (p.src : Int)) ∧ y.cell? ⟨bw, 1, none⟩ = some (.int .u32 (p.dst : Int)) ∧ y.cell? ⟨bw, 2, none⟩ = some (.int .i64 p.proto) ∧ y.cell? ⟨bw, 3, none⟩ = some (.int .i64 p.sport) ∧ y.cell? ⟨bw, 4, none⟩ = some (.int .i64 p.dport)) (exact S0.out) (fail)
                go_wp2_with fail
                go_roundg (12 - (i + 1))
                case measure => have := HI.out; omega
                case rel => exact JN.out
              · have VA := bit_no16 (s := i) hA ha
                have VB := bit_yes16 (s := i) hB hb
                have ORD := Lib.hid (lkN_first hlt (fun j hj => (he j hj).symm) hb ha)
                have BKD := Lib.hid (P5.out.no (kp.trans_no Kp.drew))
                have HD := Lib.hid (H5.out.no (kp.trans_no Kp.drew))
                clear ha hb he kp hi
                go_upto_region 21 with fail
                go_region_held3 (fun y => y.cell? ⟨w.heap.size, 0, none⟩ = some (.int .u32 (p.src : Int)) ∧ y.cell? ⟨w.heap.size, 1, none⟩ = some (.int .u32 (p.dst : Int)) ∧ y.cell? ⟨w.heap.size, 2, none⟩ = some (.int .i64 p.proto) ∧ y.cell? ⟨w.heap.size, 3, none⟩ = some (.int .i64 p.sport) ∧ y.cell? ⟨w.heap.size, 4, none⟩ = some (.int .i64 p.dport) ∧ y.cell? ⟨w.heap.size + 1, 0, none⟩ = some (.int .u32 (q.src : Int)) ∧ y.cell? ⟨w.heap.size + 1, 1, none⟩ = some (.int .u32 (q.dst : Int)) ∧ y.cell? ⟨w.heap.size + 1, 2, none⟩ = some (.int .i64 q.proto) ∧ y.cell? ⟨w.heap.size + 1, 3, none⟩ = some (.int .i64 q.sport) ∧ y.cell? ⟨w.heap.size + 1, 4, none⟩ = some (.int .i64 q.dport) ∧ y.cell? ⟨bw, 0, none⟩ = some (.int .u32 (p.src : Int)) ∧ y.cell? ⟨bw, 1, none⟩ = some (.int .u32 (p.dst : Int)) ∧ y.cell? ⟨bw, 2, none⟩ = some (.int .i64 p.proto) ∧ y.cell? ⟨bw, 3, none⟩ = some (.int .i64 p.sport) ∧ y.cell? ⟨bw, 4, none⟩ = some (.int .i64 p.dport)) (exact S0.out) (fail)
                clear S0
                go_wp2_with fail
                go_meet
                case rel => exact ⟨A, p, rfl, HA.out, .inl ⟨ORD.out, rfl, rfl⟩, HD.out, BKD.out⟩
            · cases hb : B.testBit i
              · have VA := bit_yes16 (s := i) hA ha
                have VB := bit_no16 (s := i) hB hb
                have ORD := Lib.hid (lkN_first hlt he ha hb)
                have BKD := Lib.hid (P5.out.no (kp.trans_no Kp.drew))
                have HD := Lib.hid (H5.out.no (kp.trans_no Kp.drew))
                clear ha hb he kp hi
                go_upto_region 21 with fail
                go_region_held3 (fun y => y.cell? ⟨w.heap.size, 0, none⟩ = some (.int .u32 (p.src : Int)) ∧ y.cell? ⟨w.heap.size, 1, none⟩ = some (.int .u32 (p.dst : Int)) ∧ y.cell? ⟨w.heap.size, 2, none⟩ = some (.int .i64 p.proto) ∧ y.cell? ⟨w.heap.size, 3, none⟩ = some (.int .i64 p.sport) ∧ y.cell? ⟨w.heap.size, 4, none⟩ = some (.int .i64 p.dport) ∧ y.cell? ⟨w.heap.size + 1, 0, none⟩ = some (.int .u32 (q.src : Int)) ∧ y.cell? ⟨w.heap.size + 1, 1, none⟩ = some (.int .u32 (q.dst : Int)) ∧ y.cell? ⟨w.heap.size + 1, 2, none⟩ = some (.int .i64 q.proto) ∧ y.cell? ⟨w.heap.size + 1, 3, none⟩ = some (.int .i64 q.sport) ∧ y.cell? ⟨w.heap.size + 1, 4, none⟩ = some (.int .i64 q.dport) ∧ y.cell? ⟨bw, 0, none⟩ = some (.int .u32 (p.src : Int)) ∧ y.cell? ⟨bw, 1, none⟩ = some (.int .u32 (p.dst : Int)) ∧ y.cell? ⟨bw, 2, none⟩ = some (.int .i64 p.proto) ∧ y.cell? ⟨bw, 3, none⟩ = some (.int .i64 p.sport) ∧ y.cell? ⟨bw, 4, none⟩ = some (.int .i64 p.dport)) (exact S0.out) (fail)
                generalize wr.drew = wd at *
                have z0 := BKD.out.frz
                have KS := Kp.set5 wd bw (.int .u32 (q.src : Int)) (.int .u32 (q.dst : Int)) (.int .i64 q.proto) (.int .i64 q.sport) (.int .i64 q.dport)
                have HE := Lib.hid (HD.out.own KS (fun b e => by have := BW.out; omega) (fun b e => by rw [e]; exact NB.out) (fun e => by have h1 := BW.out; have h2 := G5.out; omega))
                have BE := Lib.hid (BKD.out.put q)
                obtain ⟨c0, c1, c2, c3, c4, d0, d1, d2, d3, d4, b0, b1, b2, b3, b4⟩ := S0.out
                clear S0 KS
                go_wp2_with fail
                go_meet
                case rel => exact ⟨B, q, rfl, HB.out, .inr (.inl ⟨ORD.out, rfl, rfl⟩), HE.out, BE.out⟩
              · have VA := bit_yes16 (s := i) hA ha
                have VB := bit_yes16 (s := i) hB hb
                have JN : Hid (HfJ w5 A B (12 - (i + 1)) (.int .u16 (A : Int)) (.int .i64 ((i + 1 : Nat) : Int)) wr.drew) := Lib.hid ⟨i + 1, by omega, rfl, rfl, fun j hj => by
                  by_cases e : j = i
                  · rw [e, ha, hb]
                  · exact he j (by omega), kp.trans_no Kp.drew⟩
                clear ha hb he kp hi
                go_upto_region 21 with fail
                go_region_held3 (fun y => y.cell? ⟨w.heap.size, 0, none⟩ = some (.int .u32 (p.src : Int)) ∧ y.cell? ⟨w.heap.size, 1, none⟩ = some (.int .u32 (p.dst : Int)) ∧ y.cell? ⟨w.heap.size, 2, none⟩ = some (.int .i64 p.proto) ∧ y.cell? ⟨w.heap.size, 3, none⟩ = some (.int .i64 p.sport) ∧ y.cell? ⟨w.heap.size, 4, none⟩ = some (.int .i64 p.dport) ∧ y.cell? ⟨w.heap.size + 1, 0, none⟩ = some (.int .u32 (q.src : Int)) ∧ y.cell? ⟨w.heap.size + 1, 1, none⟩ = some (.int .u32 (q.dst : Int)) ∧ y.cell? ⟨w.heap.size + 1, 2, none⟩ = some (.int .i64 q.proto) ∧ y.cell? ⟨w.heap.size + 1, 3, none⟩ = some (.int .i64 q.sport) ∧ y.cell? ⟨w.heap.size + 1, 4, none⟩ = some (.int .i64 q.dport) ∧ y.cell? ⟨bw, 0, none⟩ = some (.int .u32 (p.src : Int)) ∧ y.cell? ⟨bw, 1, none⟩ = some (.int .u32 (p.dst : Int)) ∧ y.cell? ⟨bw, 2, none⟩ = some (.int .i64 p.proto) ∧ y.cell? ⟨bw, 3, none⟩ = some (.int .i64 p.sport) ∧ y.cell? ⟨bw, 4, none⟩ = some (.int .i64 p.dport)) (exact S0.out) (fail)
                go_wp2_with fail
                go_roundg (12 - (i + 1))
                case measure => have := HI.out; omega
                case rel => exact JN.out
          · obtain rfl : i = 12 := by omega
            have hlti : ¬ ((12 : Nat) : Int) < 12 := by omega
            have HD := Lib.hid (H5.out.no kp)
            have BKD := Lib.hid (P5.out.no kp)
            have HE := Lib.hid he
            clear he kp hi hlt
            go_wp2_with fail
            go_meet
            case rel => exact ⟨A, p, rfl, HA.out, .inr (.inr ⟨HE.out, rfl, rfl⟩), HD.out, BKD.out⟩
      case rest =>
      obtain ⟨S, z, e16, hS, hcond, hh, bk⟩ := hcut
      subst e16
      have HS := Lib.hid hS
      have HCO := Lib.hid hcond
      have H6 := Lib.hid hh
      have B6 := Lib.hid bk
      clear H5 P5 hcond hh bk
      obtain ⟨bv, hbv⟩ : ∃ b : Bool, (b = true ↔ A % 4096 = B % 4096 ∧ pkN q < pkN p) := by classical exact ⟨decide (A % 4096 = B % 4096 ∧ pkN q < pkN p), by simp⟩
      have HBV := Lib.hid hbv
      have S1 := Lib.hid (CK.out _ H6.out.sd.kp)
      go_upto_region 24 with fail
      go_cut [108] (fun s108 x => s108 = .bool bv ∧ Kp No wc x)
      case first =>
        by_cases heq : A % 4096 = B % 4096
        · obtain ⟨c0, c1, c2, c3, c4, d0, d1, d2, d3, d4⟩ := S1.out
          have hsh : IntKind.u16.wrap ((A : Int) * 16) = IntKind.u16.wrap ((B : Int) * 16) := by rw [IntKind.wrap_u16, IntKind.wrap_u16]; omega
          have LSB : Hid (∀ y, Calls Tryd.prog 37 #[Value.agg #[.int .u32 (q.src : Int), .int .u32 (q.dst : Int), .int .i64 q.proto, .int .i64 q.sport, .int .i64 q.dport], Value.agg #[.int .u32 (p.src : Int), .int .u32 (p.dst : Int), .int .i64 p.proto, .int .i64 p.sport, .int .i64 p.dport]] y fun e w' => e = .returned (.bool bv) ∧ Kp No y w') := Lib.hid (fun y => by
            have := LS.out y
            have e : bv = decide (pkN q < pkN p) := by rw [Bool.eq_iff_iff, decide_eq_true_eq, HBV.out]; exact ⟨fun h => h.2, fun h => ⟨heq, h⟩⟩
            rw [← e] at this; exact this)
          clear S1 LS hbv heq
          go_wp2_with fail
          refine (LSB.out _).mono ?_
          rintro e w6 ⟨rfl, k6⟩
          have K6 := Lib.hid k6
          clear k6 LSB
          go_wp2_with fail
          go_meet
          case rel => exact ⟨rfl, K6.out⟩
        · have hw1 : IntKind.u16.wrap ((A : Int) * 16) = ((A : Int) * 16) % 65536 := IntKind.wrap_u16 _
          have hsn : ¬ IntKind.u16.wrap ((A : Int) * 16) = IntKind.u16.wrap ((B : Int) * 16) := by rw [IntKind.wrap_u16, IntKind.wrap_u16]; omega
          have hsb : (IntKind.u16.wrap ((A : Int) * 16) == IntKind.u16.wrap ((B : Int) * 16)) = false := beq_false_of_ne hsn
          have hbf : bv = false := by
            cases hb : bv
            · rfl
            · exact (heq (hbv.1 hb).1).elim
          clear hw1 S1 LS heq hsn
          go_wp2_with fail
          go_meet
          case rel => exact ⟨by rw [hbf], Kp.refl _ _⟩
      case rest =>
      obtain ⟨e108, k108⟩ := hcut
      subst e108
      obtain ⟨z', hz'⟩ : ∃ z', z' = if bv then q else z := ⟨_, rfl⟩
      have HZ := Lib.hid hz'
      have H7 := Lib.hid (H6.out.no k108)
      have B7 := Lib.hid (B6.out.no k108)
      have S7 := Lib.hid (CK.out _ H7.out.sd.kp)
      have ANS := Lib.hid (hl_two (A := A) (B := B) (p := p) (q := q) (z := z') (S := S) HPO.out HQO.out (by
        rcases HCO.out with ⟨h1, h2, h3⟩ | ⟨h1, h2, h3⟩ | ⟨h1, h2, h3⟩
        · left
          refine ⟨h1, ?_, h3⟩
          have : bv = false := by
            cases hb : bv
            · rfl
            · have h4 : lkN A = lkN B := lexN_congr (fun v hv => low_bits.1 (HBV.out.1 hb).1 v (List.mem_range.1 hv))
              omega
          rw [hz', this, h2]; simp
        · right; left
          refine ⟨h1, ?_, h3⟩
          have : bv = false := by
            cases hb : bv
            · rfl
            · have h4 : lkN A = lkN B := lexN_congr (fun v hv => low_bits.1 (HBV.out.1 hb).1 v (List.mem_range.1 hv))
              omega
          rw [hz', this, h2]; simp
        · right; right
          refine ⟨h1, ?_, h3⟩
          rw [hz', h2]
          by_cases hlt : pkN q < pkN p
          · rw [if_pos hlt, HBV.out.2 ⟨low_bits.2 h1, hlt⟩]; simp
          · have : bv = false := by
              cases hb : bv
              · rfl
              · exact (hlt (HBV.out.1 hb).2).elim
            rw [if_neg hlt, this]; simp))
      clear k108 hz' hbv H6 B6 LS S1
      go_upto_if 108 with fail
      go_cut [] (fun x => HfE w4 pm L4 bw A B p q z' M1 L1 f g x)
      case first =>
        cases bv
        · have e : z' = z := by rw [HZ.out]; simp
          go_wp2_with fail
          go_meet
          case rel => exact ⟨H7.out, by rw [e]; exact B7.out⟩
        · have e : z' = q := by rw [HZ.out]; simp
          have z0 := B7.out.frz
          have KS := Kp.set5 wc bw (.int .u32 (q.src : Int)) (.int .u32 (q.dst : Int)) (.int .i64 q.proto) (.int .i64 q.sport) (.int .i64 q.dport)
          have HE := Lib.hid (H7.out.own KS (fun b e => by have := BW.out; omega) (fun b hb => by rw [hb]; exact NB.out) (fun hb => by have h1 := BW.out; have h2 := G5.out; omega))
          have BE := Lib.hid (B7.out.put q)
          obtain ⟨c0, c1, c2, c3, c4, d0, d1, d2, d3, d4⟩ := S7.out
          obtain ⟨b0, b1, b2, b3, b4⟩ := B7.out.at
          clear S7 KS
          go_wp2_with fail
          go_meet
          case rel => exact ⟨HE.out, by rw [e]; exact BE.out⟩
      case rest =>
      obtain ⟨h8, b8⟩ := hcut
      have H8 := Lib.hid h8
      have B8 := Lib.hid b8
      have PT := Lib.hid (tw_st A B p q)
      have TWS := Lib.hid (tw_sat A B p q)
      have TWO := Lib.hid (fun (v : Nat) (h1 : 12 ≤ v) (h2 : v % 2 = 1) (a : Nat → Bool) => tw_off A B p q ⟨h1, h2⟩ a false true)
      have DEP := Lib.hid (tw_dep A B p q)
      clear h8 b8 H7 B7 S7 HZ HBV HCO
      have TWE : Hid ((fun a => cF A p 12 a || cF B q 12 a) = twF A B p q) := Lib.hid rfl
      have OR1 := Lib.hid (OrQ H8.out.rep H8.out.qk (f := f) (F := cF A p 12) (g := g) (G := cF B q 12) (.head _) (.tail _ (.head _)) PT.out (by omega))
      go_wp2_with fail
      refine OR1.out.mono ?_
      intro e v1 o1
      obtain ⟨h, N1, K1, rfl, _, q1, r1, n1⟩ := H8.out.step_bk o1 B8.out NB.out
      rw [TWE.out] at q1
      have H9 := Lib.hid q1
      have B9 := Lib.hid r1
      have NB9 := Lib.hid n1
      clear o1 q1 r1 n1 OR1 H8 B8
      have LO := Lib.hid (HLeast_off H9.out.rep H9.out.qk H9.out.gl H9.out.off (f := h) (F := twF A B p q) (.head _) (fun e0 => by
        subst e0
        have := (zero_iff H9.out.qk (.head _)).1 rfl (xF A p)
        rw [TWS.out] at this; cases this) PT.out (fun v _ h1 h2 a => TWO.out v h1 h2 a) (by omega))
      go_wp2_with fail
      refine LO.out.mono ?_
      rintro e v2 ⟨dv, M7, L7, rfl, rr, kp, fr, qk, row, off⟩
      have EA : asg (gL (aL hlV (lsV (twF A B p q) hlV) (fun _ => false))) = hlA (twF A B p q) := rfl
      rw [EA, dnL_congr (k := 12) (b := tb S) ANS.out.2] at row
      rw [EA, ANS.out.1]
      obtain ⟨a7, c7, rfl⟩ := rowForm row
      have hd12 := dnL_len (tb S) 12
      have H10 := Lib.hid ((H9.out.ret_at rr kp fr qk).no (Kp.alloc (.cells #[.int .u32 (z'.src : Int), .int .u32 (z'.dst : Int), .int .i64 z'.proto, .int .i64 z'.sport, .int .i64 z'.dport] 48)))
      have B10 := Lib.hid ((B9.out.kp kp NB9.out).no (Kp.alloc (.cells #[.int .u32 (z'.src : Int), .int .u32 (z'.dst : Int), .int .i64 z'.proto, .int .i64 z'.sport, .int .i64 z'.dport] 48)))
      have NB10 : Hid (¬ L7.at pm bw) := Lib.hid (fun hA => by
        rcases fr _ hA with h1 | h1
        · exact NB9.out h1
        · have := B9.out.lt; omega)
      have ROW : Hid ((v2.alloc (.cells #[.int .u32 (z'.src : Int), .int .u32 (z'.dst : Int), .int .i64 z'.proto, .int .i64 z'.sport, .int .i64 z'.dport] 48)).ownsRow v1.heap.size 3 1 (.slice a7 (dnL (tb S) 12).length c7) (dnL (tb S) 12).length ((dnL (tb S) 12).map natV) ∧ ∀ b, (Value.slice a7 (dnL (tb S) 12).length c7).ownBlock = some b → ¬ L7.at pm b) := Lib.hid ⟨ownsRow_kp row (Kp.alloc (.cells #[.int .u32 (z'.src : Int), .int .u32 (z'.dst : Int), .int .i64 z'.proto, .int .i64 z'.sport, .int .i64 z'.dport] 48)) (fun _ _ x => x), off⟩
      have P10 : Hid (BkAt (v2.alloc (.cells #[.int .u32 (z'.src : Int), .int .u32 (z'.dst : Int), .int .i64 z'.proto, .int .i64 z'.sport, .int .i64 z'.dport] 48)) v2.heap.size z') := Lib.hid (BkAt.new v2 z')
      have NP10 : Hid (¬ L7.at pm v2.heap.size) := Lib.hid (fun hA => by have := rr.lt _ hA; omega)
      clear rr kp fr qk row off H9 B9 NB9 LO
      have OR2 := Lib.hid (OrQ H10.out.rep H10.out.qk (f := f) (F := cF A p 12) (g := g) (G := cF B q 12) (.tail _ (.head _)) (.tail _ (.tail _ (.head _))) PT.out (by omega))
      unfold pktV
      go_wp2_with fail
      change Calls _ _ _ (v2.alloc (.cells #[.int .u32 (z'.src : Int), .int .u32 (z'.dst : Int), .int .i64 z'.proto, .int .i64 z'.sport, .int .i64 z'.dport] 48)) _
      generalize v2.alloc (.cells #[.int .u32 (z'.src : Int), .int .u32 (z'.dst : Int), .int .i64 z'.proto, .int .i64 z'.sport, .int .i64 z'.dport] 48) = v3 at *
      generalize v2.heap.size = bx at *
      refine OR2.out.mono ?_
      intro e v4 o4
      obtain ⟨h', N4, K4', rfl, _, q4, k4, f4⟩ := H10.out.step2 o4
      rw [TWE.out] at q4
      have H11 := Lib.hid q4
      have B11 := Lib.hid (B10.out.kp k4 NB10.out)
      have P11 := Lib.hid (P10.out.kp k4 NP10.out)
      have ROW11 := Lib.hid (ownsRow_kp ROW.out.1 k4 (fun b hb hA => ROW.out.2 b hb hA))
      clear o4 q4 k4 f4 OR2 H10 B10 P10 NP10 NB10 ROW
      have CB : Hid (Calls Tryd.prog 34 #[ptr pm, .int .i64 h'] v4 fun e w' => e = .returned (.tuple #[.int .u64 0, .int .u64 0, .int .i64 1]) ∧ Kp No v4 w') := Lib.hid (by
        obtain ⟨v, a, hv, hne⟩ := DEP.out
        exact HCount_bad H11.out.rep H11.out.qk (.head _) (v := v) (by omega) (.inl hv) hne)
      go_wp2_with fail
      refine CB.out.mono ?_
      rintro e v5 ⟨rfl, k5⟩
      have KF := Lib.hid (CT.out _ (H11.out.no k5).sd.kp).kp
      have B12 := Lib.hid (B11.out.no k5)
      have P12 := Lib.hid (P11.out.no k5)
      have ROW12 := Lib.hid (SrcAt.of_row (ownsRow_kp ROW11.out k5 (fun _ _ z => z)))
      clear k5 CB H11 B11 P11 ROW11
      have J3 : Hid (HfK v5 S 12 (.int .i64 0) (.int .i64 0) v5) := Lib.hid ⟨0, by omega, rfl, rfl, Kp.refl _ _⟩
      clear AW CT CK PT TWS TWO DEP ANS TWE W4 B4'
      go_wp2_with fail
      go_loopg [24, 25] 12 (fun gk s24 s25 x => HfK v5 S gk s24 s25 x)
      case atStart => exact J3.out
      case round =>
        clear J3
        obtain ⟨i, hi, rfl, rfl, kp⟩ := hrel
        have HI := Lib.hid hi
        have KP := Lib.hid kp
        by_cases hlt : i < 12
        · have hlti : (i : Int) < 12 := by omega
          have hi0 : (0 : Int) ≤ (i : Int) := by omega
          have SN := dnL_succ (tb S) i
          cases hb : S.testBit i
          · have VS := bit_no16 (s := i) HS.out hb
            have hb' : tb S i = false := hb
            rw [hb', if_neg (by simp), List.append_nil] at SN
            have JN : Hid (HfK v5 S (12 - (i + 1)) (.int .i64 (((dnL (tb S) i).length : Nat) : Int)) (.int .i64 ((i + 1 : Nat) : Int)) wr) := Lib.hid ⟨i + 1, by omega, by rw [SN], rfl, kp⟩
            clear hi kp hb hb' SN
            generalize (dnL (tb S) i).length = k at *
            go_wp2_with fail
            go_roundg (12 - (i + 1))
            case measure => have := HI.out; omega
            case rel => exact JN.out
          · have VS := bit_yes16 (s := i) HS.out hb
            have hb' : tb S i = true := hb
            obtain ⟨hat, hkn⟩ := dn_at (a := tb S) hlt hb'
            rw [hb', if_pos rfl] at SN
            obtain ⟨g1, o1, q1, hv1, _, hcell⟩ := (ROW12.out.no kp).cellAt (by omega)
            obtain rfl : a7 = some ⟨g1, o1, none⟩ := by injection hv1
            have hcl := hcell (dnL (tb S) i).length (natV i) (by simp [hat])
            unfold natV at hcl
            have JN : Hid (HfK v5 S (12 - (i + 1)) (.int .i64 (((dnL (tb S) i).length + 1 : Nat) : Int)) (.int .i64 ((i + 1 : Nat) : Int)) wr) := Lib.hid ⟨i + 1, by omega, by rw [SN, List.length_append]; rfl, rfl, kp⟩
            clear hi kp hb hb' SN hat hcell hv1 ROW12
            generalize (dnL (tb S) i).length = k at *
            generalize (dnL (tb S) 12).length = n at *
            have hkni : (k : Int) < n := by omega
            have hge : decide ((n : Int) ≤ (k : Int)) = false := decide_eq_false (by omega)
            go_wp2_with fail
            go_roundg (12 - (i + 1))
            case measure => have := HI.out; omega
            case rel => exact JN.out
        · obtain rfl : i = 12 := by omega
          have hlti : ¬ ((12 : Nat) : Int) < 12 := by omega
          obtain ⟨b0, b1, b2, b3, b4⟩ := (B12.out.no kp).at
          obtain ⟨c0, c1, c2, c3, c4⟩ := (P12.out.no kp).at
          have KE := Lib.hid (KF.out.trans_no kp)
          clear hi kp hlt B12 P12 ROW12 KF
          go_wp2_with fail
          go_ret
          exact ⟨by simp, KE.out⟩

end Go.Proofs.YtohinonkfhkclaaDoor
