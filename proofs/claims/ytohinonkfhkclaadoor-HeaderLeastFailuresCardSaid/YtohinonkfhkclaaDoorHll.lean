/-
  Walks: the law HeaderLeast.
-/
import Derived.Test.YtohinonkfhkclaaDoorHlb
namespace Go.Proofs.YtohinonkfhkclaaDoor
open Go.RowKit

theorem neql_pk {p q : Pkt} (h : p ≠ q) (W : World) : (binOp .neq 48 (pktV p) (pktV q)).run Tryd.prog W = .ok (.bool true) W := by
  unfold pktV
  go_simp
  intro h0 h1 h2 h3 h4
  apply h
  obtain ⟨p0, p1, p2, p3, p4⟩ := p
  obtain ⟨q0, q1, q2, q3, q4⟩ := q
  simp only [Pkt.mk.injEq] at *
  omega
theorem neql_pk_same (p : Pkt) (W : World) : (binOp .neq 48 (pktV p) (pktV p)).run Tryd.prog W = .ok (.bool false) W := by
  unfold pktV
  go_simp
theorem eql_pk_same (p : Pkt) (W : World) : (binOp .eql 48 (pktV p) (pktV p)).run Tryd.prog W = .ok (.bool true) W := by
  unfold pktV
  go_simp
/-- A packet alone in a block. -/
def BkAt (x : World) (b : Nat) (p : Pkt) : Prop := x.heap[b]? = some (.cells #[.int .u32 (p.src : Int), .int .u32 (p.dst : Int), .int .i64 p.proto, .int .i64 p.sport, .int .i64 p.dport] 48 (0, 0))
section
variable {x y : World} {b : Nat} {p : Pkt}
theorem BkAt.new (x : World) (p : Pkt) : BkAt (x.alloc (.cells #[.int .u32 (p.src : Int), .int .u32 (p.dst : Int), .int .i64 p.proto, .int .i64 p.sport, .int .i64 p.dport] 48)) x.heap.size p := heap_alloc_new _ _
theorem BkAt.at (h : BkAt x b p) : PkAt x b p :=
  ⟨by rw [cell_of_row _ _ _ _ _ _ h]; rfl, by rw [cell_of_row _ _ _ _ _ _ h]; rfl, by rw [cell_of_row _ _ _ _ _ _ h]; rfl, by rw [cell_of_row _ _ _ _ _ _ h]; rfl, by rw [cell_of_row _ _ _ _ _ _ h]; rfl⟩
theorem BkAt.frz (h : BkAt x b p) (i : Nat) : x.frozen? ⟨b, i, none⟩ = false := by
  unfold BkAt at h; simp [World.frozen?, h]
theorem BkAt.kp {A : Nat → Prop} (h : BkAt x b p) (k : Kp A x y) (hn : ¬ A b) : BkAt y b p := by
  unfold BkAt at *
  rw [k.block _ (heap_lt h) hn]; exact h
theorem BkAt.no (h : BkAt x b p) (k : Kp No x y) : BkAt y b p := h.kp k (fun h => h)
theorem BkAt.lt (h : BkAt x b p) : b < x.heap.size := heap_lt h
theorem BkAt.put (h : BkAt x b p) (q : Pkt) : BkAt (((((x.setCell ⟨b, 0, none⟩ (.int .u32 (q.src : Int))).setCell ⟨b, 1, none⟩ (.int .u32 (q.dst : Int))).setCell ⟨b, 2, none⟩ (.int .i64 q.proto)).setCell ⟨b, 3, none⟩ (.int .i64 q.sport)).setCell ⟨b, 4, none⟩ (.int .i64 q.dport)) b q := by
  unfold BkAt at *
  rw [setCell_heap (setCell_heap (setCell_heap (setCell_heap (setCell_heap h _) _) _) _) _]
  rfl
end
theorem Hf.step_bk {w0 w w' : World} {p n c : Nat} {L0 L : Lay} {M : Mgr} {B : List (Int × Bfn)} {F : Bfn} {e : Ending} {c' bw : Nat} {z : Pkt} (h : Hf w0 p L0 n c w M L B) (o : OpQ p n c' L w F B e w') (bk : BkAt w bw z) (nb : ¬ L.at p bw) :
    ∃ r M' L', e = .returned (.int .i64 r) ∧ 0 ≤ r ∧ Hf w0 p L0 n c' w' M' L' ((r, F) :: B) ∧ BkAt w' bw z ∧ ¬ L'.at p bw := by
  obtain ⟨r, M', L', he, h0, hf, k, f⟩ := h.step2 o
  refine ⟨r, M', L', he, h0, hf, bk.kp k nb, fun hA => ?_⟩
  rcases f _ hA with h1 | h1
  · exact nb h1
  · have := bk.lt; omega

def HlI (w4 : World) (pm : Nat) (L4 : Lay) (bw : Nat) (l : List Pkt) (gk : Nat) (s4 s6 s7 : Value) (x : World) : Prop :=
  ∃ i r M L z, i + gk = l.length ∧ s4 = .int .i64 r ∧ s6 = .int .u64 ((difN (l.take i) : Nat) : Int) ∧ s7 = .int .i64 (i : Int) ∧ (∀ p, p ∈ l.take i → p.ok) ∧ (i = 0 → l[0]? = some z) ∧ (0 < i → z ∈ l.take i) ∧ (∀ p, p ∈ l.take i → pkN z ≤ pkN p) ∧ Hf w4 pm L4 220 (2 + i * 200000000) x M L [(r, pksF (l.take i))] ∧ BkAt x bw z ∧ ¬ L.at pm bw
/-- The earlier packets are compared. -/
def HlK (wr : World) (l : List Pkt) (x : Pkt) (i gk : Nat) (s8 s9 : Value) (y : World) : Prop :=
  ∃ k fr, k + gk = i ∧ s8 = .bool fr ∧ (fr = true ↔ x ∉ l.take k) ∧ s9 = .int .i64 (k : Int) ∧ Kp No wr y
theorem take_some {l : List Pkt} {i : Nat} {x : Pkt} (h : l[i]? = some x) : l.take (i + 1) = l.take i ++ [x] := by
  obtain ⟨hl, rfl⟩ := List.getElem?_eq_some_iff.1 h
  exact List.take_succ_eq_append_getElem hl
/-- What holds of the first i + 1 packets. -/
theorem hl_min {l : List Pkt} {i : Nat} {x z z' : Pkt} (hx : l[i]? = some x) (h0 : i = 0 → l[0]? = some z) (h1 : 0 < i → z ∈ l.take i) (h2 : ∀ p, p ∈ l.take i → pkN z ≤ pkN p) (hz : z' = if pkN x < pkN z then x else z) :
    z' ∈ l.take (i + 1) ∧ ∀ p, p ∈ l.take (i + 1) → pkN z' ≤ pkN p := by
  rw [take_some hx]
  by_cases h : pkN x < pkN z
  · rw [if_pos h] at hz
    subst hz
    refine ⟨by simp, fun p hp => ?_⟩
    rcases List.mem_append.1 hp with hp | hp
    · have := h2 p hp; omega
    · rw [List.mem_singleton.1 hp]; exact Nat.le_refl _
  · rw [if_neg h] at hz
    subst hz
    refine ⟨?_, fun p hp => ?_⟩
    · rcases Nat.eq_zero_or_pos i with e | e
      · subst e
        have := h0 rfl
        rw [hx] at this
        cases this; simp
      · exact List.mem_append_left _ (h1 e)
    · rcases List.mem_append.1 hp with hp | hp
      · exact h2 p hp
      · rw [List.mem_singleton.1 hp]; omega
/-- The least packet of a list. -/
theorem HLeast_pks {p c : Nat} {M : Mgr} {L : Lay} {B : List (Int × Bfn)} {f : Int} {l : List Pkt} {z : Pkt} (hne : l ≠ []) (hl : l.length ≤ 12) (hok : ∀ q, q ∈ l → q.ok) (hz : z ∈ l) (hmin : ∀ q, q ∈ l → pkN z ≤ pkN q) {w : World} (h : Hf w p L 220 c w M L B) (hf : (f, pksF l) ∈ B) (hc : c ≤ 400000000000) :
    Calls Tryd.prog 36 #[ptr p, .int .i64 f] w fun e w' => ∃ a cc M', Ret p L w M' (.tuple #[.slice a 0 cc, pktV z, .bool true]) e w' ∧ Qk 220 (c + 100000000) M' B := by
  have sat : pksF l (encP (fun _ => false) z) = true := by rw [pksF_iff hok, getP_encP _ (hok z hz)]; exact hz
  have hf0 : f ≠ 0 := fun e => by
    subst e
    have := (zero_iff h.qk hf).1 rfl (encP (fun _ => false) z)
    rw [sat] at this; cases this
  have := HLeast_ok h.rep h.qk h.gl h.off hf hf0 ((pks_st l).mono (by omega : _ ≤ 13)) (fun v hv h12 ho a => pks_off _ (.inr ho) _ _ _) (by omega)
  obtain ⟨q', hm, h1, h2, h3⟩ := hl_pks hne hok
  have e : q' = z := pkN_inj (hok q' hm) (hok z hz) (by have := h3 z hz; have := hmin q' hm; omega)
  rw [e] at h1
  refine this.mono (fun e' w' hh => ?_)
  obtain ⟨dv, M', hr, hk, hrow⟩ := hh
  have ea : asg (gL (aL hlV (lsV (pksF l) hlV) (fun _ => false))) = hlA (pksF l) := rfl
  rw [ea, h2] at hrow
  rw [ea, h1] at hr
  obtain ⟨a, cc, rfl⟩ := rowForm hrow
  exact ⟨a, cc, M', hr, hk.mono (by omega)⟩
theorem HCount_pks {p c : Nat} {M : Mgr} {L : Lay} {B : List (Int × Bfn)} {f : Int} {l : List Pkt} (hl : l.length ≤ 12) (hok : ∀ q, q ∈ l → q.ok) {w : World} (h : Hf w p L 220 c w M L B) (hf : (f, pksF l) ∈ B) :
    Calls Tryd.prog 34 #[ptr p, .int .i64 f] w fun e w' => e = .returned (.tuple #[.int .u64 0, .int .u64 ((difN l : Nat) : Int), .int .i64 0]) ∧ Kp No w w' := by
  have := HCount_ok h.rep h.qk hf (fun v _ hv a => pks_off _ hv _ _ _)
  have hd := difN_le hok
  have e : cntL (pksF l) (hvK false 104) = difN l := rfl
  rw [e, Nat.div_eq_of_lt (by omega), Nat.mod_eq_of_lt (by omega)] at this
  exact this

set_option maxRecDepth 1000000 in
set_option maxHeartbeats 16000000 in
theorem HeaderLeast_walk (l : List Pkt) {v : Value} {w : World} (hs : PksAt w v l) (g : Gl w) :
    Calls Tryd.prog 8 #[v] w fun e w' => e = .returned (.bool true) ∧ Kp No w w' := by
  obtain ⟨ao, cap, rfl, hml, h32, hc⟩ := hs
  have AW := Lib.hid (hawake_ok g)
  have GW := Lib.hid g
  by_cases hl0 : l.length = 0
  · have hl0i : (l.length : Int) = 0 := by omega
    clear g h32 hc hml
    generalize l.length = len at *
    subst hl0
    go_enter Tryd.func8, Tryd.ntmps8
    go_wp2_with fail
    refine AW.out.mono ?_
    rintro e w1 ⟨rfl, k1⟩
    have K1 := Lib.hid k1
    clear k1 AW
    go_wp2_with fail
    go_ret
    exact ⟨rfl, K1.out⟩
  by_cases hl12 : 12 < l.length
  · have hl0i : ¬ (l.length : Int) = 0 := by omega
    have hl12i : (12 : Int) < l.length := by omega
    clear g h32 hc
    go_enter Tryd.func8, Tryd.ntmps8
    go_wp2_with fail
    refine AW.out.mono ?_
    rintro e w1 ⟨rfl, k1⟩
    have K1 := Lib.hid k1
    clear k1 AW
    go_wp2_with fail
    go_ret
    exact ⟨rfl, K1.out⟩
  rcases hc with hc | ⟨g0, o0, rfl, hg0, hc⟩
  · omega
  have hl0i : ((l.length : Int) == 0) = false := beq_false_of_ne (show (l.length : Int) ≠ 0 by omega)
  have hl12i : decide ((12 : Int) < (l.length : Int)) = false := decide_eq_false (by omega)
  have HC := Lib.hid hc
  have HG := Lib.hid hg0
  have H32 := Lib.hid h32
  have NEW := Lib.hid (fun (y : World) => HNew_ok y)
  obtain ⟨x0, hx0⟩ : ∃ x0, l[0]? = some x0 := ⟨_, List.getElem?_eq_getElem (by omega)⟩
  have HX0 := Lib.hid hx0
  have hlpos : (0 : Int) < l.length := by omega
  clear g hc hg0 h32
  go_enter Tryd.func8, Tryd.ntmps8
  go_wp2_with fail
  refine AW.out.mono ?_
  rintro e w1 ⟨rfl, k1⟩
  have K1 := Lib.hid k1
  clear k1 AW
  go_wp2_with fail
  refine (NEW.out _).mono ?_
  rintro e w4 ⟨pm, L4, rfl, R4, k4, o4⟩
  have K4 := Lib.hid (K1.out.trans_no k4)
  have H4 := Lib.hid (hf_new (GW.out.no K1.out) (Kp.refl No w1) R4 k4 o4)
  have O4 : Hid (∀ x, L4.at pm x → w.heap.size ≤ x) := Lib.hid (fun x hx => by have := o4 x hx; have := K1.out.size; omega)
  have CL : Hid (∀ y, Kp (L4.at pm) w4 y → ∀ i x, l[i]? = some x → y.cell? ⟨g0, o0 + i * 5, none⟩ = some (.int .u32 (x.src : Int)) ∧ y.cell? ⟨g0, o0 + i * 5 + 1, none⟩ = some (.int .u32 (x.dst : Int)) ∧ y.cell? ⟨g0, o0 + i * 5 + 2, none⟩ = some (.int .i64 x.proto) ∧ y.cell? ⟨g0, o0 + i * 5 + 3, none⟩ = some (.int .i64 x.sport) ∧ y.cell? ⟨g0, o0 + i * 5 + 4, none⟩ = some (.int .i64 x.dport)) := Lib.hid (fun y ky i x hx => by
    have h := HC.out i x hx
    have hk : ∀ (j : Nat), y.cell? ⟨g0, j, none⟩ = w.cell? ⟨g0, j, none⟩ := fun j => by
      have h1 := HG.out
      have h2 := K4.out.size
      rw [ky.cell (a := ⟨g0, j, none⟩) (by show g0 < _; omega) (fun hA => by have : w.heap.size ≤ g0 := O4.out g0 hA; omega), K4.out.cell (a := ⟨g0, j, none⟩) h1 (fun h => h)]
    rw [hk, hk, hk, hk, hk]
    exact h)
  clear R4 k4 o4 NEW K1 HC HG
  obtain ⟨b0, b1, b2, b3, b4⟩ := CL.out w4 (Kp.refl _ _) 0 x0 hx0
  have e0 : o0 + 0 * 5 = o0 := by omega
  rw [e0] at b0 b1 b2 b3 b4
  clear hx0
  have BK0 := Lib.hid (BkAt.new w4 x0)
  have H5 := Lib.hid (H4.out.no (Kp.alloc (.cells #[.int .u32 (x0.src : Int), .int .u32 (x0.dst : Int), .int .i64 x0.proto, .int .i64 x0.sport, .int .i64 x0.dport] 48)))
  have NB0 : Hid (¬ L4.at pm w4.heap.size) := Lib.hid (fun hA => by have := H4.out.rep.lt _ hA; omega)
  have G5 : Hid (0 < w4.heap.size) := Lib.hid H4.out.gl.lt
  clear H4
  go_wp2_with fail
  change Code.wp _ _ _ _ (w4.alloc (.cells #[.int .u32 (x0.src : Int), .int .u32 (x0.dst : Int), .int .i64 x0.proto, .int .i64 x0.sport, .int .i64 x0.dport] 48))
  generalize hbw : w4.heap.size = bw at *
  generalize w4.alloc (.cells #[.int .u32 (x0.src : Int), .int .u32 (x0.dst : Int), .int .i64 x0.proto, .int .i64 x0.sport, .int .i64 x0.dport] 48) = w5 at *
  have HBW := Lib.hid hbw
  clear hbw b0 b1 b2 b3 b4 e0
  have J0 : Hid (HlI w4 pm L4 bw l l.length (.int .i64 0) (.int .u64 0) (.int .i64 0) w5) := Lib.hid ⟨0, 0, _, L4, x0, by omega, rfl, (by rw [List.take_zero, difN_nil]; rfl), rfl, fun p hp => (by rw [List.take_zero] at hp; cases hp), fun _ => HX0.out, fun h => absurd h (by omega), fun p hp => (by rw [List.take_zero] at hp; cases hp), (by
    rw [List.take_zero]
    exact H5.out.consts.sub (fun y hy => by rw [List.mem_singleton.1 hy]; exact .head _)), BK0.out, NB0.out⟩
  clear H5 BK0 NB0 HX0
  go_loopg [4, 6, 7] l.length (fun gk s4 s6 s7 x => HlI w4 pm L4 bw l gk s4 s6 s7 x)
  case atStart => exact J0.out
  case round =>
    clear J0
    obtain ⟨i, r, M, L, z, hi, rfl, rfl, rfl, hok, hz0, hz1, hmin, h, bk, nb⟩ := hrel
    have HI := Lib.hid hi
    have H := Lib.hid h
    have BK := Lib.hid bk
    have NB := Lib.hid nb
    have OK := Lib.hid hok
    have KF : Hid (∀ y, Kp (L4.at pm) w4 y → Kp No w y) := Lib.hid (fun y ky => K4.out.trans (A' := L4.at pm) (fun b hb => .inr (O4.out b hb)) ky)
    by_cases hlt : i < l.length
    · obtain ⟨x, hx⟩ : ∃ x, l[i]? = some x := ⟨_, List.getElem?_eq_getElem hlt⟩
      have hlti : (i : Int) < l.length := by omega
      have hx32 := H32.out x (List.mem_of_getElem? hx)
      have VP := Lib.hid (fun (y : World) => ValidPacket_ok x y)
      obtain ⟨c0, c1, c2, c3, c4⟩ := CL.out wr h.sd.kp i x hx
      cases hv : vpB x
      · rw [hv] at VP
        clear hi hok hz0 hz1 hmin h bk nb hx hv
        unfold pktV at VP
        go_wp2_with fail
        refine (VP.out _).mono ?_
        rintro e w6 ⟨rfl, k6⟩
        have HK := Lib.hid (KF.out _ (H.out.no k6).sd.kp)
        clear k6 VP
        go_wp2_with fail
        go_ret
        exact ⟨rfl, HK.out⟩
      rw [hv] at VP
      have hxo := vpB_true hx32 hv
      have hzo : z.ok := by
        rcases Nat.eq_zero_or_pos i with e | e
        · have e1 := hz0 e
          rw [e] at hx
          rw [hx] at e1
          cases e1; exact hxo
        · exact hok z (hz1 e)
      have LS := Lib.hid (fun (y : World) => less_ok hxo hzo y)
      have PKC := Lib.hid (fun (c : Nat) (M : Mgr) (L : Lay) (B : List (Int × Bfn)) (y : World) (f : Hf y pm L 220 c y M L B) (hc : c ≤ 400000000000) => Packet_ok x hx32 false f.rep f.qk f.gl f.off hc)
      have SN := Lib.hid (pksF_snoc (l := l.take i) (p := x) hok hxo)
      have PS := Lib.hid (((pks_st (l.take (i + 1))).mono (by rw [List.length_take]; omega : _ ≤ 13)).congr (G := fun a => pksF (l.take i) a || pkF x false 5 a) (fun a => by rw [take_some hx]; exact SN.out a))
      have TS := Lib.hid (take_some hx)
      have DN : Hid (x ∉ l.take i → difN (l.take (i + 1)) = difN (l.take i) + 1) := Lib.hid (fun hn => by rw [TS.out]; exact difN_new OK.out hxo hn)
      have DO : Hid (x ∈ l.take i → difN (l.take (i + 1)) = difN (l.take i)) := Lib.hid (fun hn => by rw [TS.out]; exact difN_old OK.out hn)
      have hdn : difN (l.take i) ≤ 12 := Nat.le_trans (difN_le hok) (by rw [List.length_take]; omega)
      have OKN : Hid (∀ p, p ∈ l.take (i + 1) → p.ok) := Lib.hid (fun p hp => by
        rw [TS.out] at hp
        rcases List.mem_append.1 hp with hp | hp
        · exact OK.out p hp
        · rw [List.mem_singleton.1 hp]; exact hxo)
      have MIN := Lib.hid (fun (z' : Pkt) (hz : z' = if pkN x < pkN z then x else z) => hl_min hx hz0 hz1 hmin hz)
      have HX := Lib.hid hx
      have LF : Hid (∀ (w : World), ∀ u, l[0]? = some u → u = u) := Lib.hid (fun _ _ _ => rfl)
      have NEQ := Lib.hid (fun (u : Pkt) (h : u ≠ x) => neql_pk h)
      have NES := Lib.hid (neql_pk_same x)
      generalize hdd : difN (l.take i) = dn at *
      clear hi hok hz0 hz1 hmin h bk nb hx hv hx32 hxo hzo LF hdd
      unfold pktV at *
      go_wp2_with fail
      refine (VP.out _).mono ?_
      rintro e w6 ⟨rfl, k6⟩
      have H6 := Lib.hid ((H.out.no k6).no Kp.drew)
      have BK6 := Lib.hid ((BK.out.no k6).no Kp.drew)
      clear k6 VP H BK c0 c1 c2 c3 c4
      have CK : Hid (∀ y, Kp (L4.at pm) w4 y → BkAt y bw z → y.cell? ⟨g0, o0 + i * 5, none⟩ = some (.int .u32 (x.src : Int)) ∧ y.cell? ⟨g0, o0 + i * 5 + 1, none⟩ = some (.int .u32 (x.dst : Int)) ∧ y.cell? ⟨g0, o0 + i * 5 + 2, none⟩ = some (.int .i64 x.proto) ∧ y.cell? ⟨g0, o0 + i * 5 + 3, none⟩ = some (.int .i64 x.sport) ∧ y.cell? ⟨g0, o0 + i * 5 + 4, none⟩ = some (.int .i64 x.dport) ∧ y.cell? ⟨bw, 0, none⟩ = some (.int .u32 (z.src : Int)) ∧ y.cell? ⟨bw, 1, none⟩ = some (.int .u32 (z.dst : Int)) ∧ y.cell? ⟨bw, 2, none⟩ = some (.int .i64 z.proto) ∧ y.cell? ⟨bw, 3, none⟩ = some (.int .i64 z.sport) ∧ y.cell? ⟨bw, 4, none⟩ = some (.int .i64 z.dport)) := Lib.hid (fun y ky bk => by
        obtain ⟨c0, c1, c2, c3, c4⟩ := CL.out y ky i x HX.out
        obtain ⟨d0, d1, d2, d3, d4⟩ := bk.at
        exact ⟨c0, c1, c2, c3, c4, d0, d1, d2, d3, d4⟩)
      have S0 := Lib.hid (CK.out _ H6.out.sd.kp BK6.out)
      by_cases hb : pkN x < pkN z
      · have HB := Lib.hid (MIN.out x (by rw [if_pos hb]))
        have LSB : Hid (∀ y, Calls Tryd.prog 37 #[Value.agg #[.int .u32 (x.src : Int), .int .u32 (x.dst : Int), .int .i64 x.proto, .int .i64 x.sport, .int .i64 x.dport], Value.agg #[.int .u32 (z.src : Int), .int .u32 (z.dst : Int), .int .i64 z.proto, .int .i64 z.sport, .int .i64 z.dport]] y fun e w' => e = .returned (.bool true) ∧ Kp No y w') := Lib.hid (fun y => by have := LS.out y; rw [decide_eq_true hb] at this; exact this)
        clear LS hb MIN
        go_upto_region 14 with fail
        go_region_held3 (fun y => y.cell? ⟨g0, o0 + i * 5, none⟩ = some (.int .u32 (x.src : Int)) ∧ y.cell? ⟨g0, o0 + i * 5 + 1, none⟩ = some (.int .u32 (x.dst : Int)) ∧ y.cell? ⟨g0, o0 + i * 5 + 2, none⟩ = some (.int .i64 x.proto) ∧ y.cell? ⟨g0, o0 + i * 5 + 3, none⟩ = some (.int .i64 x.sport) ∧ y.cell? ⟨g0, o0 + i * 5 + 4, none⟩ = some (.int .i64 x.dport) ∧ y.cell? ⟨bw, 0, none⟩ = some (.int .u32 (z.src : Int)) ∧ y.cell? ⟨bw, 1, none⟩ = some (.int .u32 (z.dst : Int)) ∧ y.cell? ⟨bw, 2, none⟩ = some (.int .i64 z.proto) ∧ y.cell? ⟨bw, 3, none⟩ = some (.int .i64 z.sport) ∧ y.cell? ⟨bw, 4, none⟩ = some (.int .i64 z.dport)) (exact S0.out) (first | (go_at_call 37; (with_reducible refine (LSB.out _).mono ?_); rintro e wa ⟨rfl, ka⟩; replace H6 := Lib.hid (H6.out.no ka); replace BK6 := Lib.hid (BK6.out.no ka); replace S0 := Lib.hid (CK.out _ H6.out.sd.kp BK6.out); clear ka))
        obtain ⟨c0, c1, c2, c3, c4, d0, d1, d2, d3, d4⟩ := S0.out
        have z0 := BK6.out.frz
        have KS := Lib.hid (Kp.set5 wa bw (.int .u32 (x.src : Int)) (.int .u32 (x.dst : Int)) (.int .i64 x.proto) (.int .i64 x.sport) (.int .i64 x.dport))
        have BY := Lib.hid (BK6.out.put x)
        have HY := Lib.hid (H6.out.own KS.out (fun b e => by have := HBW.out; omega) (fun b e => by rw [e]; exact NB.out) (fun e => by have := G5.out; omega))
        clear S0 H6 BK6
        go_upto_region 16 with fail
        clear c0 c1 c2 c3 c4 d0 d1 d2 d3 d4 z0 KS
        generalize ((((wa.setCell ⟨bw, 0, none⟩ (.int .u32 (x.src : Int))).setCell ⟨bw, 1, none⟩ (.int .u32 (x.dst : Int))).setCell ⟨bw, 2, none⟩ (.int .i64 x.proto)).setCell ⟨bw, 3, none⟩ (.int .i64 x.sport)).setCell ⟨bw, 4, none⟩ (.int .i64 x.dport) = wy at *
        go_wp2_with fail
        have J1 : Hid (HlK wy l x i i (.bool true) (.int .i64 0) wy) := Lib.hid ⟨0, true, by omega, rfl, by simp, rfl, Kp.refl _ _⟩
        go_loopg [8, 9] i (fun gk s8 s9 y => HlK wy l x i gk s8 s9 y)
        case atStart => exact J1.out
        case round =>
          clear J1
          obtain ⟨k, fr, hk, rfl, hfr, rfl, kp⟩ := hrel
          have HK := Lib.hid hk
          have HFR := Lib.hid hfr
          have KP := Lib.hid kp
          by_cases hkl : k < i
          · have hkli : (k : Int) < i := by omega
            have hkll : (k : Int) < l.length := by omega
            obtain ⟨u, hu⟩ : ∃ u, l[k]? = some u := ⟨_, List.getElem?_eq_getElem (by omega)⟩
            have TK := Lib.hid (take_some hu)
            have HU := Lib.hid hu
            have S1 : Hid (wr.drew.cell? ⟨g0, o0 + k * 5, none⟩ = some (.int .u32 (u.src : Int)) ∧ wr.drew.cell? ⟨g0, o0 + k * 5 + 1, none⟩ = some (.int .u32 (u.dst : Int)) ∧ wr.drew.cell? ⟨g0, o0 + k * 5 + 2, none⟩ = some (.int .i64 u.proto) ∧ wr.drew.cell? ⟨g0, o0 + k * 5 + 3, none⟩ = some (.int .i64 u.sport) ∧ wr.drew.cell? ⟨g0, o0 + k * 5 + 4, none⟩ = some (.int .i64 u.dport) ∧ wr.drew.cell? ⟨g0, o0 + i * 5, none⟩ = some (.int .u32 (x.src : Int)) ∧ wr.drew.cell? ⟨g0, o0 + i * 5 + 1, none⟩ = some (.int .u32 (x.dst : Int)) ∧ wr.drew.cell? ⟨g0, o0 + i * 5 + 2, none⟩ = some (.int .i64 x.proto) ∧ wr.drew.cell? ⟨g0, o0 + i * 5 + 3, none⟩ = some (.int .i64 x.sport) ∧ wr.drew.cell? ⟨g0, o0 + i * 5 + 4, none⟩ = some (.int .i64 x.dport)) := Lib.hid (by
              have k1 := (HY.out.sd.kp.trans_no kp).trans_no (Kp.drew (w := wr))
              obtain ⟨c0, c1, c2, c3, c4⟩ := CL.out _ k1 k u hu
              obtain ⟨d0, d1, d2, d3, d4⟩ := CL.out _ k1 i x HX.out
              exact ⟨c0, c1, c2, c3, c4, d0, d1, d2, d3, d4⟩)
            clear hk hfr kp hu
            cases fr
            · have JN : Hid (∀ nq, HlK wy l x i (i - (k + 1)) (.bool false) (.int .i64 ((k + 1 : Nat) : Int)) (wr.drewN nq)) := Lib.hid (fun nq => ⟨k + 1, false, by omega, rfl, by
                have := HFR.out
                rw [TK.out]; simp at this ⊢; intro h; exact absurd this h, rfl, KP.out.trans_no (Kp.drewN nq)⟩)
              go_upto_region 20 with fail
              go_quiet (fail)
              go_wp2_with fail
              go_roundg (i - (k + 1))
              case measure => have := HK.out; omega
              case rel => exact JN.out _
            · by_cases hux : u = x
              · have JN : Hid (HlK wy l x i (i - (k + 1)) (.bool false) (.int .i64 ((k + 1 : Nat) : Int)) wr.drew) := Lib.hid ⟨k + 1, false, by omega, rfl, by
                  rw [TK.out, hux]; simp, rfl, KP.out.trans_no Kp.drew⟩
                subst hux
                have NEH := NES.out
                go_upto_region 20 with fail
                go_region_held3 (fun y => y.cell? ⟨g0, o0 + k * 5, none⟩ = some (.int .u32 (u.src : Int)) ∧ y.cell? ⟨g0, o0 + k * 5 + 1, none⟩ = some (.int .u32 (u.dst : Int)) ∧ y.cell? ⟨g0, o0 + k * 5 + 2, none⟩ = some (.int .i64 u.proto) ∧ y.cell? ⟨g0, o0 + k * 5 + 3, none⟩ = some (.int .i64 u.sport) ∧ y.cell? ⟨g0, o0 + k * 5 + 4, none⟩ = some (.int .i64 u.dport) ∧ y.cell? ⟨g0, o0 + i * 5, none⟩ = some (.int .u32 (u.src : Int)) ∧ y.cell? ⟨g0, o0 + i * 5 + 1, none⟩ = some (.int .u32 (u.dst : Int)) ∧ y.cell? ⟨g0, o0 + i * 5 + 2, none⟩ = some (.int .i64 u.proto) ∧ y.cell? ⟨g0, o0 + i * 5 + 3, none⟩ = some (.int .i64 u.sport) ∧ y.cell? ⟨g0, o0 + i * 5 + 4, none⟩ = some (.int .i64 u.dport)) (exact S1.out) (fail)
                go_wp2_with fail
                go_roundg (i - (k + 1))
                case measure => have := HK.out; omega
                case rel => exact JN.out
              · have JN : Hid (HlK wy l x i (i - (k + 1)) (.bool true) (.int .i64 ((k + 1 : Nat) : Int)) wr.drew) := Lib.hid ⟨k + 1, true, by omega, rfl, by
                  have := HFR.out.1 rfl
                  rw [TK.out]; simp [this]; exact fun e => hux e.symm, rfl, KP.out.trans_no Kp.drew⟩
                have NEH := NEQ.out u hux
                clear hux
                go_upto_region 20 with fail
                go_region_held3 (fun y => y.cell? ⟨g0, o0 + k * 5, none⟩ = some (.int .u32 (u.src : Int)) ∧ y.cell? ⟨g0, o0 + k * 5 + 1, none⟩ = some (.int .u32 (u.dst : Int)) ∧ y.cell? ⟨g0, o0 + k * 5 + 2, none⟩ = some (.int .i64 u.proto) ∧ y.cell? ⟨g0, o0 + k * 5 + 3, none⟩ = some (.int .i64 u.sport) ∧ y.cell? ⟨g0, o0 + k * 5 + 4, none⟩ = some (.int .i64 u.dport) ∧ y.cell? ⟨g0, o0 + i * 5, none⟩ = some (.int .u32 (x.src : Int)) ∧ y.cell? ⟨g0, o0 + i * 5 + 1, none⟩ = some (.int .u32 (x.dst : Int)) ∧ y.cell? ⟨g0, o0 + i * 5 + 2, none⟩ = some (.int .i64 x.proto) ∧ y.cell? ⟨g0, o0 + i * 5 + 3, none⟩ = some (.int .i64 x.sport) ∧ y.cell? ⟨g0, o0 + i * 5 + 4, none⟩ = some (.int .i64 x.dport)) (exact S1.out) (fail)
                go_wp2_with fail
                go_roundg (i - (k + 1))
                case measure => have := HK.out; omega
                case rel => exact JN.out
          · obtain rfl : k = i := by omega
            have HZ := Lib.hid (HY.out.no kp)
            have BZ := Lib.hid (BY.out.no kp)
            obtain ⟨c0, c1, c2, c3, c4⟩ := CL.out _ HZ.out.sd.kp k x HX.out
            have hkki : ¬ (k : Int) < k := by omega
            clear hk kp hkl hfr BY HY
            cases fr
            · have hmem : x ∈ l.take k := Classical.byContradiction (fun h => by have := HFR.out.2 h; cases this)
              have DD := Lib.hid (DO.out hmem)
              clear HFR DN DO hmem
              go_wp2_with fail
              refine (PKC.out _ _ _ _ _ HZ.out.rebase (by omega)).mono ?_
              intro e wp hp
              obtain ⟨rp, Mp, Lp, rfl, _, HP, BP, NP⟩ := HZ.out.step_bk hp BZ.out NB.out
              have OR := Lib.hid (OrQ HP.rep HP.qk (f := r) (F := pksF (l.take k)) (.tail _ (.head _)) (.head _) PS.out (by omega))
              have HPH := Lib.hid HP
              have BPH := Lib.hid BP
              have NPH := Lib.hid NP
              clear hp HP BP NP HZ BZ c0 c1 c2 c3 c4 PKC
              go_wp2_with fail
              refine OR.out.mono ?_
              intro e wo ho
              obtain ⟨ro, Mo, Lo, rfl, _, HO, BO, NO⟩ := HPH.out.step_bk ho BPH.out NPH.out
              have JO : Hid (HlI w4 pm L4 bw l (l.length - (k + 1)) (.int .i64 ro) (.int .u64 ((dn : Nat) : Int)) (.int .i64 ((k + 1 : Nat) : Int)) wo) := Lib.hid ⟨k + 1, ro, Mo, Lo, _, by omega, rfl, by rw [DD.out], rfl, OKN.out, fun h => by omega, fun _ => HB.out.1, HB.out.2, by
                refine ((HO.cong (G := pksF (l.take (k + 1))) (fun a => by rw [TS.out]; exact SN.out a)).sub (fun y hy => ?_)).mono (by omega)
                rw [List.mem_singleton.1 hy]; exact .head _, BO, NO⟩
              clear ho HO BO NO HPH BPH NPH OR HB
              go_wp2_with fail
              go_roundg (l.length - (k + 1))
              case measure => have := HI.out; omega
              case rel => exact JO.out
            · have DD := Lib.hid (DN.out (HFR.out.1 rfl))
              clear HFR DN DO
              go_wp2_with fail
              refine (PKC.out _ _ _ _ _ HZ.out.rebase (by omega)).mono ?_
              intro e wp hp
              obtain ⟨rp, Mp, Lp, rfl, _, HP, BP, NP⟩ := HZ.out.step_bk hp BZ.out NB.out
              have OR := Lib.hid (OrQ HP.rep HP.qk (f := r) (F := pksF (l.take k)) (.tail _ (.head _)) (.head _) PS.out (by omega))
              have HPH := Lib.hid HP
              have BPH := Lib.hid BP
              have NPH := Lib.hid NP
              clear hp HP BP NP HZ BZ c0 c1 c2 c3 c4 PKC
              go_wp2_with fail
              refine OR.out.mono ?_
              intro e wo ho
              obtain ⟨ro, Mo, Lo, rfl, _, HO, BO, NO⟩ := HPH.out.step_bk ho BPH.out NPH.out
              have JO : Hid (HlI w4 pm L4 bw l (l.length - (k + 1)) (.int .i64 ro) (.int .u64 ((dn + 1 : Nat) : Int)) (.int .i64 ((k + 1 : Nat) : Int)) wo) := Lib.hid ⟨k + 1, ro, Mo, Lo, _, by omega, rfl, by rw [DD.out], rfl, OKN.out, fun h => by omega, fun _ => HB.out.1, HB.out.2, by
                refine ((HO.cong (G := pksF (l.take (k + 1))) (fun a => by rw [TS.out]; exact SN.out a)).sub (fun y hy => ?_)).mono (by omega)
                rw [List.mem_singleton.1 hy]; exact .head _, BO, NO⟩
              clear ho HO BO NO HPH BPH NPH OR HB
              go_wp2_with fail
              go_roundg (l.length - (k + 1))
              case measure => have := HI.out; omega
              case rel => exact JO.out
      · have HB := Lib.hid (MIN.out z (by rw [if_neg hb]))
        have LSB : Hid (∀ y, Calls Tryd.prog 37 #[Value.agg #[.int .u32 (x.src : Int), .int .u32 (x.dst : Int), .int .i64 x.proto, .int .i64 x.sport, .int .i64 x.dport], Value.agg #[.int .u32 (z.src : Int), .int .u32 (z.dst : Int), .int .i64 z.proto, .int .i64 z.sport, .int .i64 z.dport]] y fun e w' => e = .returned (.bool false) ∧ Kp No y w') := Lib.hid (fun y => by have := LS.out y; rw [decide_eq_false hb] at this; exact this)
        clear LS hb MIN
        go_upto_region 14 with fail
        go_region_held3 (fun y => y.cell? ⟨g0, o0 + i * 5, none⟩ = some (.int .u32 (x.src : Int)) ∧ y.cell? ⟨g0, o0 + i * 5 + 1, none⟩ = some (.int .u32 (x.dst : Int)) ∧ y.cell? ⟨g0, o0 + i * 5 + 2, none⟩ = some (.int .i64 x.proto) ∧ y.cell? ⟨g0, o0 + i * 5 + 3, none⟩ = some (.int .i64 x.sport) ∧ y.cell? ⟨g0, o0 + i * 5 + 4, none⟩ = some (.int .i64 x.dport) ∧ y.cell? ⟨bw, 0, none⟩ = some (.int .u32 (z.src : Int)) ∧ y.cell? ⟨bw, 1, none⟩ = some (.int .u32 (z.dst : Int)) ∧ y.cell? ⟨bw, 2, none⟩ = some (.int .i64 z.proto) ∧ y.cell? ⟨bw, 3, none⟩ = some (.int .i64 z.sport) ∧ y.cell? ⟨bw, 4, none⟩ = some (.int .i64 z.dport)) (exact S0.out) (first | (go_at_call 37; (with_reducible refine (LSB.out _).mono ?_); rintro e wy ⟨rfl, ka⟩; have HY := Lib.hid (H6.out.no ka); have BY := Lib.hid (BK6.out.no ka); replace S0 := Lib.hid (CK.out _ HY.out.sd.kp BY.out); clear ka H6 BK6))
        go_wp2_with fail
        have J1 : Hid (HlK wy l x i i (.bool true) (.int .i64 0) wy) := Lib.hid ⟨0, true, by omega, rfl, by simp, rfl, Kp.refl _ _⟩
        go_loopg [8, 9] i (fun gk s8 s9 y => HlK wy l x i gk s8 s9 y)
        case atStart => exact J1.out
        case round =>
          clear J1
          obtain ⟨k, fr, hk, rfl, hfr, rfl, kp⟩ := hrel
          have HK := Lib.hid hk
          have HFR := Lib.hid hfr
          have KP := Lib.hid kp
          by_cases hkl : k < i
          · have hkli : (k : Int) < i := by omega
            have hkll : (k : Int) < l.length := by omega
            obtain ⟨u, hu⟩ : ∃ u, l[k]? = some u := ⟨_, List.getElem?_eq_getElem (by omega)⟩
            have TK := Lib.hid (take_some hu)
            have HU := Lib.hid hu
            have S1 : Hid (wr.drew.cell? ⟨g0, o0 + k * 5, none⟩ = some (.int .u32 (u.src : Int)) ∧ wr.drew.cell? ⟨g0, o0 + k * 5 + 1, none⟩ = some (.int .u32 (u.dst : Int)) ∧ wr.drew.cell? ⟨g0, o0 + k * 5 + 2, none⟩ = some (.int .i64 u.proto) ∧ wr.drew.cell? ⟨g0, o0 + k * 5 + 3, none⟩ = some (.int .i64 u.sport) ∧ wr.drew.cell? ⟨g0, o0 + k * 5 + 4, none⟩ = some (.int .i64 u.dport) ∧ wr.drew.cell? ⟨g0, o0 + i * 5, none⟩ = some (.int .u32 (x.src : Int)) ∧ wr.drew.cell? ⟨g0, o0 + i * 5 + 1, none⟩ = some (.int .u32 (x.dst : Int)) ∧ wr.drew.cell? ⟨g0, o0 + i * 5 + 2, none⟩ = some (.int .i64 x.proto) ∧ wr.drew.cell? ⟨g0, o0 + i * 5 + 3, none⟩ = some (.int .i64 x.sport) ∧ wr.drew.cell? ⟨g0, o0 + i * 5 + 4, none⟩ = some (.int .i64 x.dport)) := Lib.hid (by
              have k1 := (HY.out.sd.kp.trans_no kp).trans_no (Kp.drew (w := wr))
              obtain ⟨c0, c1, c2, c3, c4⟩ := CL.out _ k1 k u hu
              obtain ⟨d0, d1, d2, d3, d4⟩ := CL.out _ k1 i x HX.out
              exact ⟨c0, c1, c2, c3, c4, d0, d1, d2, d3, d4⟩)
            clear hk hfr kp hu
            cases fr
            · have JN : Hid (∀ nq, HlK wy l x i (i - (k + 1)) (.bool false) (.int .i64 ((k + 1 : Nat) : Int)) (wr.drewN nq)) := Lib.hid (fun nq => ⟨k + 1, false, by omega, rfl, by
                have := HFR.out
                rw [TK.out]; simp at this ⊢; intro h; exact absurd this h, rfl, KP.out.trans_no (Kp.drewN nq)⟩)
              go_upto_region 20 with fail
              go_quiet (fail)
              go_wp2_with fail
              go_roundg (i - (k + 1))
              case measure => have := HK.out; omega
              case rel => exact JN.out _
            · by_cases hux : u = x
              · have JN : Hid (HlK wy l x i (i - (k + 1)) (.bool false) (.int .i64 ((k + 1 : Nat) : Int)) wr.drew) := Lib.hid ⟨k + 1, false, by omega, rfl, by
                  rw [TK.out, hux]; simp, rfl, KP.out.trans_no Kp.drew⟩
                subst hux
                have NEH := NES.out
                go_upto_region 20 with fail
                go_region_held3 (fun y => y.cell? ⟨g0, o0 + k * 5, none⟩ = some (.int .u32 (u.src : Int)) ∧ y.cell? ⟨g0, o0 + k * 5 + 1, none⟩ = some (.int .u32 (u.dst : Int)) ∧ y.cell? ⟨g0, o0 + k * 5 + 2, none⟩ = some (.int .i64 u.proto) ∧ y.cell? ⟨g0, o0 + k * 5 + 3, none⟩ = some (.int .i64 u.sport) ∧ y.cell? ⟨g0, o0 + k * 5 + 4, none⟩ = some (.int .i64 u.dport) ∧ y.cell? ⟨g0, o0 + i * 5, none⟩ = some (.int .u32 (u.src : Int)) ∧ y.cell? ⟨g0, o0 + i * 5 + 1, none⟩ = some (.int .u32 (u.dst : Int)) ∧ y.cell? ⟨g0, o0 + i * 5 + 2, none⟩ = some (.int .i64 u.proto) ∧ y.cell? ⟨g0, o0 + i * 5 + 3, none⟩ = some (.int .i64 u.sport) ∧ y.cell? ⟨g0, o0 + i * 5 + 4, none⟩ = some (.int .i64 u.dport)) (exact S1.out) (fail)
                go_wp2_with fail
                go_roundg (i - (k + 1))
                case measure => have := HK.out; omega
                case rel => exact JN.out
              · have JN : Hid (HlK wy l x i (i - (k + 1)) (.bool true) (.int .i64 ((k + 1 : Nat) : Int)) wr.drew) := Lib.hid ⟨k + 1, true, by omega, rfl, by
                  have := HFR.out.1 rfl
                  rw [TK.out]; simp [this]; exact fun e => hux e.symm, rfl, KP.out.trans_no Kp.drew⟩
                have NEH := NEQ.out u hux
                clear hux
                go_upto_region 20 with fail
                go_region_held3 (fun y => y.cell? ⟨g0, o0 + k * 5, none⟩ = some (.int .u32 (u.src : Int)) ∧ y.cell? ⟨g0, o0 + k * 5 + 1, none⟩ = some (.int .u32 (u.dst : Int)) ∧ y.cell? ⟨g0, o0 + k * 5 + 2, none⟩ = some (.int .i64 u.proto) ∧ y.cell? ⟨g0, o0 + k * 5 + 3, none⟩ = some (.int .i64 u.sport) ∧ y.cell? ⟨g0, o0 + k * 5 + 4, none⟩ = some (.int .i64 u.dport) ∧ y.cell? ⟨g0, o0 + i * 5, none⟩ = some (.int .u32 (x.src : Int)) ∧ y.cell? ⟨g0, o0 + i * 5 + 1, none⟩ = some (.int .u32 (x.dst : Int)) ∧ y.cell? ⟨g0, o0 + i * 5 + 2, none⟩ = some (.int .i64 x.proto) ∧ y.cell? ⟨g0, o0 + i * 5 + 3, none⟩ = some (.int .i64 x.sport) ∧ y.cell? ⟨g0, o0 + i * 5 + 4, none⟩ = some (.int .i64 x.dport)) (exact S1.out) (fail)
                go_wp2_with fail
                go_roundg (i - (k + 1))
                case measure => have := HK.out; omega
                case rel => exact JN.out
          · obtain rfl : k = i := by omega
            have HZ := Lib.hid (HY.out.no kp)
            have BZ := Lib.hid (BY.out.no kp)
            obtain ⟨c0, c1, c2, c3, c4⟩ := CL.out _ HZ.out.sd.kp k x HX.out
            have hkki : ¬ (k : Int) < k := by omega
            clear hk kp hkl hfr BY HY
            cases fr
            · have hmem : x ∈ l.take k := Classical.byContradiction (fun h => by have := HFR.out.2 h; cases this)
              have DD := Lib.hid (DO.out hmem)
              clear HFR DN DO hmem
              go_wp2_with fail
              refine (PKC.out _ _ _ _ _ HZ.out.rebase (by omega)).mono ?_
              intro e wp hp
              obtain ⟨rp, Mp, Lp, rfl, _, HP, BP, NP⟩ := HZ.out.step_bk hp BZ.out NB.out
              have OR := Lib.hid (OrQ HP.rep HP.qk (f := r) (F := pksF (l.take k)) (.tail _ (.head _)) (.head _) PS.out (by omega))
              have HPH := Lib.hid HP
              have BPH := Lib.hid BP
              have NPH := Lib.hid NP
              clear hp HP BP NP HZ BZ c0 c1 c2 c3 c4 PKC
              go_wp2_with fail
              refine OR.out.mono ?_
              intro e wo ho
              obtain ⟨ro, Mo, Lo, rfl, _, HO, BO, NO⟩ := HPH.out.step_bk ho BPH.out NPH.out
              have JO : Hid (HlI w4 pm L4 bw l (l.length - (k + 1)) (.int .i64 ro) (.int .u64 ((dn : Nat) : Int)) (.int .i64 ((k + 1 : Nat) : Int)) wo) := Lib.hid ⟨k + 1, ro, Mo, Lo, _, by omega, rfl, by rw [DD.out], rfl, OKN.out, fun h => by omega, fun _ => HB.out.1, HB.out.2, by
                refine ((HO.cong (G := pksF (l.take (k + 1))) (fun a => by rw [TS.out]; exact SN.out a)).sub (fun y hy => ?_)).mono (by omega)
                rw [List.mem_singleton.1 hy]; exact .head _, BO, NO⟩
              clear ho HO BO NO HPH BPH NPH OR HB
              go_wp2_with fail
              go_roundg (l.length - (k + 1))
              case measure => have := HI.out; omega
              case rel => exact JO.out
            · have DD := Lib.hid (DN.out (HFR.out.1 rfl))
              clear HFR DN DO
              go_wp2_with fail
              refine (PKC.out _ _ _ _ _ HZ.out.rebase (by omega)).mono ?_
              intro e wp hp
              obtain ⟨rp, Mp, Lp, rfl, _, HP, BP, NP⟩ := HZ.out.step_bk hp BZ.out NB.out
              have OR := Lib.hid (OrQ HP.rep HP.qk (f := r) (F := pksF (l.take k)) (.tail _ (.head _)) (.head _) PS.out (by omega))
              have HPH := Lib.hid HP
              have BPH := Lib.hid BP
              have NPH := Lib.hid NP
              clear hp HP BP NP HZ BZ c0 c1 c2 c3 c4 PKC
              go_wp2_with fail
              refine OR.out.mono ?_
              intro e wo ho
              obtain ⟨ro, Mo, Lo, rfl, _, HO, BO, NO⟩ := HPH.out.step_bk ho BPH.out NPH.out
              have JO : Hid (HlI w4 pm L4 bw l (l.length - (k + 1)) (.int .i64 ro) (.int .u64 ((dn + 1 : Nat) : Int)) (.int .i64 ((k + 1 : Nat) : Int)) wo) := Lib.hid ⟨k + 1, ro, Mo, Lo, _, by omega, rfl, by rw [DD.out], rfl, OKN.out, fun h => by omega, fun _ => HB.out.1, HB.out.2, by
                refine ((HO.cong (G := pksF (l.take (k + 1))) (fun a => by rw [TS.out]; exact SN.out a)).sub (fun y hy => ?_)).mono (by omega)
                rw [List.mem_singleton.1 hy]; exact .head _, BO, NO⟩
              clear ho HO BO NO HPH BPH NPH OR HB
              go_wp2_with fail
              go_roundg (l.length - (k + 1))
              case measure => have := HI.out; omega
              case rel => exact JO.out
    · obtain rfl : i = l.length := by omega
      rw [List.take_length] at *
      have hne : l ≠ [] := fun e => hl0 (by rw [e]; rfl)
      have hzl := hz1 (by omega)
      have LQ := Lib.hid (HLeast_pks (l := l) (z := z) hne (by omega) hok hzl hmin h.rebase (.head _) (by omega))
      have CQ := Lib.hid (fun (c : Nat) (M : Mgr) (L : Lay) (B : List (Int × Bfn)) (f : Int) (y : World) (h : Hf y pm L 220 c y M L B) (hf : (f, pksF l) ∈ B) => HCount_pks (l := l) (by omega) hok h hf)
      have EQS := eql_pk_same z
      generalize difN l = dn at *
      clear hi hok hz0 hz1 hmin h bk nb hlt hne hzl
      unfold pktV at *
      go_wp2_with fail
      refine LQ.out.mono ?_
      rintro e w7 ⟨a7, c7, M7, ret, qk⟩
      have BK7 : Hid (BkAt w7 bw z) := Lib.hid (by obtain ⟨_, _, _, kp3, _⟩ := ret; exact BK.out.kp kp3 NB.out)
      obtain ⟨rfl, L7, f7⟩ := H.out.ret_step ret qk
      have H8 := Lib.hid (f7.no (Kp.alloc (.cells #[.int .u32 (z.src : Int), .int .u32 (z.dst : Int), .int .i64 z.proto, .int .i64 z.sport, .int .i64 z.dport] 48)))
      have BK8 := Lib.hid (BK7.out.no (Kp.alloc (.cells #[.int .u32 (z.src : Int), .int .u32 (z.dst : Int), .int .i64 z.proto, .int .i64 z.sport, .int .i64 z.dport] 48)))
      have P8 : Hid (BkAt (w7.alloc (.cells #[.int .u32 (z.src : Int), .int .u32 (z.dst : Int), .int .i64 z.proto, .int .i64 z.sport, .int .i64 z.dport] 48)) w7.heap.size z) := Lib.hid (BkAt.new w7 z)
      clear ret qk f7 H BK BK7 LQ
      go_wp2_with fail
      change Calls _ _ _ (w7.alloc (.cells #[.int .u32 (z.src : Int), .int .u32 (z.dst : Int), .int .i64 z.proto, .int .i64 z.sport, .int .i64 z.dport] 48)) _
      generalize w7.alloc (.cells #[.int .u32 (z.src : Int), .int .u32 (z.dst : Int), .int .i64 z.proto, .int .i64 z.sport, .int .i64 z.dport] 48) = w8 at *
      refine (CQ.out _ _ _ _ _ _ H8.out.rebase (.head _)).mono ?_
      rintro e w9 ⟨rfl, k9⟩
      obtain ⟨c0, c1, c2, c3, c4⟩ := (BK8.out.no k9).at
      obtain ⟨d0, d1, d2, d3, d4⟩ := (P8.out.no k9).at
      have HF := Lib.hid (KF.out _ (H8.out.no k9).sd.kp)
      clear k9 H8 BK8 P8 CQ
      go_wp2_with fail
      go_ret
      exact ⟨by simp, HF.out⟩

end Go.Proofs.YtohinonkfhkclaaDoor
