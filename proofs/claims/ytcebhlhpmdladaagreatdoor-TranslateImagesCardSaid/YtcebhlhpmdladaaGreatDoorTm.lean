/-
  Walks: the law TranslateImages (printed by gen_tm.py).
-/
import Derived.Test.YtcebhlhpmdladaaGreatDoorTl
import Derived.Test.YtcebhlhpmdladaaGreatDoorIm
namespace Go.Proofs.YtcebhlhpmdladaaGreatDoor
open Go.RowKit

theorem Hf.then {w0 w w' : World} {p n c c' : Nat} {L0 L L' : Lay} {M M' : Mgr} {B B' : List (Int × Bfn)} (h : Hf w0 p L0 n c w M L B) (h' : Hf w p L n c' w' M' L' B') : Hf w0 p L0 n c' w' M' L' B' :=
  ⟨⟨h'.rep, h.sd.kp.trans h.sd.fr h'.sd.kp, h.sd.fr.then h'.sd.fr h.sd.kp.size⟩, h'.qk, h'.gl, h'.off⟩
section
variable {w0 w : World} {p c : Nat} {L0 L : Lay} {M : Mgr} {B : List (Int × Bfn)}
def InP (w0 : World) (p : Nat) (L0 : Lay) (c : Nat) (l : List Pkt) (B : List (Int × Bfn)) (e : Ending) (w' : World) : Prop := ∃ r M' L', e = .returned (.int .i64 r) ∧ Hf w0 p L0 220 c w' M' L' ((r, ipF false l) :: B)
theorem or_in (H : Hf w0 p L0 220 c w M L B) {f g : Int} (l1 l2 : List Pkt) (hf : (f, ipF false l1) ∈ B) (hg : (g, ipF false l2) ∈ B) (hl : ∀ q, q ∈ l1 ++ l2 → q.ok) (hn : (l1 ++ l2).length ≤ 60) (hc : c ≤ 900000000000) :
    Calls Tryz.prog 8 #[ptr p, .int .i64 f, .int .i64 g] w (InP w0 p L0 (c + 20000) (l1 ++ l2) B) := by
  have e : ∀ a, (ipF false l1 a || ipF false l2 a) = ipF false (l1 ++ l2) a := fun a => by
    rw [Bool.eq_iff_iff, Bool.or_eq_true, ipF_iff, ipF_iff, ipF_iff, List.mem_append]
  refine (OrQ H.rep H.qk hf hg (s := 61) (((ipF_st false (l1 ++ l2) hl).mono (by omega)).congr (fun a => e a)) (by omega)).mono (fun x w' o => ?_)
  obtain ⟨r, M', L', rfl, _, h⟩ := H.step o
  exact ⟨r, M', L', rfl, (h.cong e).mono (by omega)⟩
theorem pk_in_ok (H : Hf w0 p L0 220 c w M L B) (q : Pkt) (hq : q.ok) (hc : c ≤ 400000000000) :
    Calls Tryz.prog 9 #[ptr p, .bool false, pktV q] w (InP w0 p L0 (c + 100000000) [q] B) := by
  refine (Packet_ok q hq.in32 false H.rep H.qk H.gl H.off hc).mono (fun x w' o => ?_)
  obtain ⟨r, M', L', rfl, _, h⟩ := H.step o
  exact ⟨r, M', L', rfl, h.cong (fun a => pk_in q hq false a)⟩
end
theorem PksAt.at {w : World} {v : Value} {l : List Pkt} (h : PksAt w v l) : ∃ ao cap, v = .slice ao l.length cap ∧ l.length ≤ maxLen ∧ (∀ p, p ∈ l → p.in32) ∧ (l.length = 0 ∨ ∃ g o, ao = some ⟨g, o, none⟩ ∧ g < w.heap.size ∧ ∀ k p, l[k]? = some p → w.cell? ⟨g, o + k * 5, none⟩ = some (.int .u32 (p.src : Int)) ∧ w.cell? ⟨g, o + k * 5 + 1, none⟩ = some (.int .u32 (p.dst : Int)) ∧ w.cell? ⟨g, o + k * 5 + 2, none⟩ = some (.int .i64 p.proto) ∧ w.cell? ⟨g, o + k * 5 + 3, none⟩ = some (.int .i64 p.sport) ∧ w.cell? ⟨g, o + k * 5 + 4, none⟩ = some (.int .i64 p.dport)) := h
/-- The law's router and its last packet in their boxes. -/
structure TmB (b : Nat) (cs : Array Value) (q : Pkt) (y : World) : Prop where
  r : y.heap[b]? = some (.cells cs 41 (0, 0))
  q : PkB y (b + 1) q
theorem TmB.kp {A : Nat → Prop} {b : Nat} {cs : Array Value} {q : Pkt} {y y' : World} (h : TmB b cs q y) (k : Kp A y y') (a0 : ¬ A b) (a1 : ¬ A (b + 1)) : TmB b cs q y' :=
  ⟨(k.block _ (heap_lt h.r) a0).trans h.r, (k.block _ (heap_lt h.q) a1).trans h.q⟩
theorem TmB.no {b : Nat} {cs : Array Value} {q : Pkt} {y y' : World} (h : TmB b cs q y) (k : Kp No y y') : TmB b cs q y' := h.kp k (fun h => h) (fun h => h)
/-- What the walk reads in a round. -/
def TmS (b g o k : Nat) (cs : Array Value) (q p : Pkt) (y : World) : Prop := y.heap[b]? = some (.cells cs 41 (0, 0)) ∧ (y.cell? ⟨g, o + k * 5, none⟩ = some (.int .u32 (p.src : Int)) ∧ y.cell? ⟨g, o + k * 5 + 1, none⟩ = some (.int .u32 (p.dst : Int)) ∧ y.cell? ⟨g, o + k * 5 + 2, none⟩ = some (.int .i64 p.proto) ∧ y.cell? ⟨g, o + k * 5 + 3, none⟩ = some (.int .i64 p.sport) ∧ y.cell? ⟨g, o + k * 5 + 4, none⟩ = some (.int .i64 p.dport)) ∧ y.cell? ⟨b + 1, 0, none⟩ = some (.int .u32 (q.src : Int)) ∧ y.cell? ⟨b + 1, 1, none⟩ = some (.int .u32 (q.dst : Int)) ∧ y.cell? ⟨b + 1, 2, none⟩ = some (.int .i64 q.proto) ∧ y.cell? ⟨b + 1, 3, none⟩ = some (.int .i64 q.sport) ∧ y.cell? ⟨b + 1, 4, none⟩ = some (.int .i64 q.dport)
def reB (d : Pkt) (l : List Pkt) : Bool := l.any fun p => pkEq d p
def beB (xs l : List Pkt) : Bool := l.any fun p => hasB xs p
def TmR (b : Nat) (cs : Array Value) (q : Pkt) (y : World) : Prop := y.heap[b]? = some (.cells cs 41 (0, 0)) ∧ y.cell? ⟨b + 1, 0, none⟩ = some (.int .u32 (q.src : Int)) ∧ y.cell? ⟨b + 1, 1, none⟩ = some (.int .u32 (q.dst : Int)) ∧ y.cell? ⟨b + 1, 2, none⟩ = some (.int .i64 q.proto) ∧ y.cell? ⟨b + 1, 3, none⟩ = some (.int .i64 q.sport) ∧ y.cell? ⟨b + 1, 4, none⟩ = some (.int .i64 q.dport)
theorem pkA_enc {p q : Pkt} (hp : p.ok) : pkA false (asg (gL (encF (fun _ => false) p q))) = p :=
  (pkA_iff hp false _).2 (fun u hu => by rw [gL_at _ (hvar_lt hu _), enc_bit]; rfl)
theorem ip_cur (l : List Pkt) : ∀ v, v < 220 → nxV v = true → ∀ a : Nat → Bool, ipF false l (Mgr.upd a v false) = ipF false l (Mgr.upd a v true) := fun v _ hn a => by
  have hv := of_decide_eq_true hn
  have e : pkA false (Mgr.upd a v false) = pkA false (Mgr.upd a v true) := pkA_congr (fun u _ => by
    have : hvar u false ≠ v := fun h => by
      have : hvar u false = 12 + 2 * u + 0 := rfl
      omega
    unfold Mgr.upd
    rw [if_neg this, if_neg this])
  unfold ipF
  rw [e]
theorem flat_one (D : Pkt → Pkt) : ∀ l : List Pkt, l.flatMap (fun p => [D p]) = l.map D
  | [] => rfl
  | z :: t => by rw [List.flatMap_cons, flat_one D t]; rfl
/-- The way through the packets. -/
def TmJ (W : World) (pm : Nat) (L : Lay) (D : Pkt → Pkt) (S : Pkt → List Pkt) (q : Pkt) (l : List Pkt) (gk : Nat) (s8 s9 s10 s11 s12 s13 : Value) (x : World) : Prop :=
  ∃ (k : Nat) (rs rt rf : Int) (b1 b2 : Bool) (M : Mgr) (L' : Lay), k + gk = l.length ∧ s13 = .int .i64 (k : Int) ∧ s8 = .int .i64 rs ∧ s9 = .int .i64 rt ∧ s10 = .int .i64 rf ∧ s11 = .bool b1 ∧ s12 = .bool b2 ∧
    (∀ p, p ∈ l.take k → p.ok) ∧ b1 = reB (D q) (l.take k) ∧ b2 = beB (S q) (l.take k) ∧
    Hf W pm L 220 (2 + k * 1100000000) x M L' [(rf, ipF false ((l.take k).flatMap S)), (rt, ipF false ((l.take k).map D)), (rs, ipF false (l.take k))]
/-- The way through the results of one packet. -/
def TmI (Y : World) (pm : Nat) (L : Lay) (c : Nat) (fr xs : List Pkt) (rt rs : Int) (FT FS : Bfn) (gk : Nat) (s10 s15 : Value) (x : World) : Prop :=
  ∃ (k : Nat) (rf : Int) (M : Mgr) (L' : Lay), k + gk = xs.length ∧ s15 = .int .i64 (k : Int) ∧ s10 = .int .i64 rf ∧ Hf Y pm L 220 (c + k * 100020000) x M L' [(rf, ipF false (fr ++ xs.take k)), (rt, FT), (rs, FS)]

set_option maxRecDepth 1000000 in
set_option maxHeartbeats 16000000 in
theorem TranslateImages_walk (cs : Array Value) (l : List Pkt) (v : Value) (q : Pkt) (hq : q.in32) {w : World} (hl : PksAt w v l) (ok : RtC w cs) (g : Gl w) :
    Calls Tryz.prog 3 #[.agg cs, v, pktV q] w fun e w' => e = .returned (.bool true) ∧ Kp No w w' := by
  have h0 := heap_alloc_new w (.cells cs 41)
  have z0 : (w.alloc (.cells cs 41)).heap.size = w.heap.size + 1 := by simp
  have k0 : Kp No w (w.alloc (.cells cs 41)) := Kp.alloc _
  have PL0 := Lib.hid hl
  obtain ⟨ao, cap, rfl, hlen, h32, _⟩ := PksAt.at hl
  have H32 := Lib.hid h32
  have hml := maxLen_val
  have hli : (l.length : Int) ≤ 9223372036854775807 := by omega
  have VQ := Lib.hid (fun (y : World) => ValidPacket_ok q y)
  have OK0 := Lib.hid ok
  have CSZ := Lib.hid ok.sz
  have G0 := Lib.hid g
  have HQ := Lib.hid hq
  obtain ⟨b2, hb2⟩ : ∃ b, vpB q = b := ⟨_, rfl⟩
  rw [hb2] at VQ
  have HB2 := Lib.hid hb2
  clear ok g hq hb2 hl h32
  unfold pktV at *
  go_enter Tryz.func3, Tryz.ntmps3
  go_upto_region 1 with fail
  generalize w.alloc (.cells cs 41) = X0 at *
  have h1 : PkB (X0.alloc (.cells #[.int .u32 (q.src : Int), .int .u32 (q.dst : Int), .int .i64 q.proto, .int .i64 q.sport, .int .i64 q.dport] 45)) X0.heap.size q := heap_alloc_new X0 _
  have k1 := Kp.alloc (w := X0) (.cells #[.int .u32 (q.src : Int), .int .u32 (q.dst : Int), .int .i64 q.proto, .int .i64 q.sport, .int .i64 q.dport] 45)
  rw [z0] at h1
  generalize X0.alloc (.cells #[.int .u32 (q.src : Int), .int .u32 (q.dst : Int), .int .i64 q.proto, .int .i64 q.sport, .int .i64 q.dport] 45) = X at *
  have R0 : Hid (TmB w.heap.size cs q X) := Lib.hid ⟨(k1.block _ (heap_lt h0) (fun h => h)).trans h0, h1⟩
  have K0 := Lib.hid (k0.trans_no k1)
  have AW := Lib.hid (tawake_ok (G0.out.no K0.out))
  clear h0 h1 k0 k1 z0
  go_wp2_with fail
  refine AW.out.mono ?_
  rintro e w1 ⟨rfl, k1⟩
  have K1 := Lib.hid (K0.out.trans_no k1)
  have R1 := Lib.hid (R0.out.no k1)
  clear k1 AW K0 R0
  by_cases h6 : (l.length : Int) > 6
  · go_wp2
    go_ret
    exact ⟨rfl, K1.out⟩
  have H6 : Hid (l.length ≤ 6) := Lib.hid (by omega)
  have d6 : decide ((6 : Int) < l.length) = false := decide_eq_false (by omega)
  obtain ⟨c0, c1, c2, c3, c4⟩ := R1.out.q.c
  go_wp2_with fail
  refine (VQ.out _).mono ?_
  rintro e w3 ⟨rfl, k3⟩
  have K3 := Lib.hid (K1.out.trans_no k3)
  have R3 := Lib.hid (R1.out.no k3)
  clear k3 c0 c1 c2 c3 c4 VQ
  cases b2
  · go_wp2
    go_ret
    exact ⟨rfl, K3.out⟩
  have QO := Lib.hid (vpB_true HQ.out HB2.out)
  have OK3 := Lib.hid (OK0.out.no K3.out)
  have SM := Lib.hid (Small_any cs w3 OK3.out)
  go_wp2_with (first | (refine wpList_load_rt rfl _ rfl w.heap.size rfl cs CSZ.out R3.out.r ?_))
  refine SM.out.mono ?_
  rintro e w5 ⟨b, rfl, k5, hb⟩
  have HB := Lib.hid hb
  have K35 := Lib.hid k5
  have K5 := Lib.hid (K3.out.trans_no k5)
  have R5 := Lib.hid (R3.out.no k5)
  clear hb k5 SM
  cases b
  · go_wp2
    go_ret
    exact ⟨rfl, K5.out⟩
  obtain ⟨ts, acs, hts, hok, hle, hro, hat⟩ := router_lists OK3.out (HB.out rfl)
  have HTS := Lib.hid (And.intro hts hok)
  have HAT := Lib.hid hat
  have HLE := Lib.hid hle
  have HRO := Lib.hid hro
  have NEW := Lib.hid (HNew_ok w5)
  clear hts hok hle hro hat
  go_wp2_with fail
  refine NEW.out.mono ?_
  rintro e W ⟨pm, L, rfl, RR, k4, o4⟩
  have H0 := Lib.hid (hf_new G0.out K5.out RR k4 o4)
  have LO : Hid (∀ z, L.at pm z → w5.heap.size ≤ z) := Lib.hid o4
  have LH : Hid (∀ z, L.at pm z → z < W.heap.size) := Lib.hid (fun z h => RR.lt _ h)
  have RW := Lib.hid (R5.out.no k4)
  have KW := Lib.hid (K5.out.trans_no k4)
  have NAL := Lib.hid (HAT.out W pm L (K35.out.trans_no k4) (fun k hk h => by have := o4 k h; have := K35.out.size; omega))
  have NL : Hid (¬ L.at pm w.heap.size ∧ ¬ L.at pm (w.heap.size + 1) ∧ ∀ z, z < w.heap.size → ¬ L.at pm z) := Lib.hid (by
    have r0 := heap_lt R5.out.r
    have r1 := heap_lt R5.out.q
    refine ⟨fun h => ?_, fun h => ?_, fun z hz h => ?_⟩ <;> (have := LO.out _ h; omega))
  have LO2 : Hid (∀ z, L.at pm z → w.heap.size ≤ z) := Lib.hid (fun z h => by have := LO.out z h; have := K5.out.size; omega)
  clear RR k4 o4 NEW K1 K3 R1 R3 R5 HAT LO
  obtain ⟨D, hD⟩ : ∃ D, D = pkDst ts := ⟨_, rfl⟩
  obtain ⟨S, hS⟩ : ∃ S, S = pkSrc (acG acs) ts := ⟨_, rfl⟩
  have HD := Lib.hid hD
  have HS := Lib.hid hS
  have DO : Hid (∀ p : Pkt, p.ok → (D p).ok) := Lib.hid (fun p hp => by rw [hD]; exact pkDst_ok ts HTS.out.2 hp)
  have SO : Hid (∀ p : Pkt, p.ok → (∀ x, x ∈ S p → x.ok) ∧ (S p).length ≤ 8) := Lib.hid (fun p hp => by rw [hS]; exact ⟨pkSrc_ok (acG acs) ts HTS.out.2 hp, pkSrc_le _ _ HTS.out.2 _⟩)
  have ND : Hid (∀ (p : Pkt) (y : World) {L' : Lay}, NatAt y pm L' cs ts → Calls Tryz.prog 10 #[.agg cs, pktV p] y fun e w' => e = .returned (pktV (D p)) ∧ Kp No y w') := Lib.hid (fun p y _ h => by rw [hD]; exact NDest_ok cs ts p y h)
  have NS : Hid (∀ (p : Pkt), p.in32 → ∀ (y : World) {L' : Lay}, NatAt y pm L' cs ts → AcAt y pm L' cs acs → Calls Tryz.prog 11 #[.agg cs, pktV p] y (SrPost y (S p))) := Lib.hid (fun p hp y _ h h2 => by rw [hS]; exact NSource_ok cs CSZ.out ts HTS.out.2 acs HRO.out p hp y h h2)
  clear hD hS
  have RF : Hid (∀ y, Kp (L.at pm) W y → TmB w.heap.size cs q y) := Lib.hid (fun y k => RW.out.kp k NL.out.1 NL.out.2.1)
  have PF : Hid (∀ y, Kp (L.at pm) W y → ∀ k, k < l.length → ∃ g o, ao = some ⟨g, o, none⟩ ∧ ∀ (p : Pkt), l[k]? = some p → ∀ z, Kp (L.at pm) W z → TmS w.heap.size g o k cs q p z) := Lib.hid (fun y k i hi => by
    obtain ⟨ao', cap', e, _, _, hc⟩ := PksAt.at PL0.out
    cases e
    rcases hc with h | ⟨g, o, e, hg, hc⟩
    · omega
    · refine ⟨g, o, e, fun p hp z kz => ?_⟩
      have tz : ∀ j, z.cell? ⟨g, j, none⟩ = w.cell? ⟨g, j, none⟩ := fun j => by
        rw [kz.cell (a := ⟨g, j, none⟩) (by show g < W.heap.size; have := KW.out.size; omega) (NL.out.2.2 g hg), KW.out.cell (a := ⟨g, j, none⟩) hg (fun h => h)]
      obtain ⟨x0, x1, x2, x3, x4⟩ := hc i p hp
      exact ⟨(RF.out z kz).r, ⟨by rw [tz]; exact x0, by rw [tz]; exact x1, by rw [tz]; exact x2, by rw [tz]; exact x3, by rw [tz]; exact x4⟩, (RF.out z kz).q.c⟩)
  have NF : Hid (∀ y L', Kp (L.at pm) W y → Fresh (L.at pm) (L'.at pm) W → NatAt y pm L' cs ts ∧ AcAt y pm L' cs acs) := Lib.hid (fun y L' k f => ⟨NAL.out.1.of k f, NAL.out.2.of k f⟩)
  have JS : Hid (TmJ W pm L D S q l l.length (.int .i64 0) (.int .i64 0) (.int .i64 0) (.bool false) (.bool false) (.int .i64 0) W) := Lib.hid (by
    refine ⟨0, 0, 0, 0, false, false, Mgr.new 220, L, by omega, rfl, rfl, rfl, rfl, rfl, rfl, fun p h => by simp at h, rfl, rfl, ?_⟩
    have e : ∀ a, (fun _ : Nat → Bool => false) a = ipF false [] a := fun a => by
      symm
      rw [Bool.eq_false_iff]
      intro h
      exact absurd (ipF_iff.1 h) (by simp)
    have h := ((H0.out.consts.sub (B' := [(0, fun _ => false)]) (fun x hx => by rw [List.mem_singleton.1 hx]; exact List.Mem.head _)).cong e)
    refine (h.sub (fun x hx => ?_)).mono (by omega)
    have : x = (0, ipF false []) := by
      rcases List.mem_cons.1 hx with h | hx
      · exact h
      rcases List.mem_cons.1 hx with h | hx
      · exact h
      · exact List.mem_singleton.1 hx
    rw [this]
    exact List.Mem.head _)
  clear NAL
  go_upto_region 9 with fail
  go_loopg [8, 9, 10, 11, 12, 13] l.length (fun gk s8 s9 s10 s11 s12 s13 x => TmJ W pm L D S q l gk s8 s9 s10 s11 s12 s13 x)
  case atStart => exact JS.out
  case round =>
    clear JS
    generalize wr = x1 at *
    obtain ⟨k, rs, rt, rf, t1, t2, M1, L1, hk, rfl, rfl, rfl, rfl, rfl, rfl, hpo, hb1, hb2, hh⟩ := hrel
    have HK := Lib.hid hk
    have HPO := Lib.hid hpo
    have HB := Lib.hid (And.intro hb1 hb2)
    have H1 := Lib.hid hh
    clear hk hpo hb1 hb2 hh
    by_cases hlt : k < l.length
    · have HLT := Lib.hid hlt
      have hlti : (k : Int) < l.length := by omega
      obtain ⟨g, o, rfl, PFK0⟩ := PF.out x1 H1.out.sd.kp k hlt
      have TK : Hid (l.take (k + 1) = l.take k ++ [l[k]]) := Lib.hid (List.take_succ_eq_append_getElem hlt)
      have SF : Hid (∀ z, Kp (L.at pm) W z → TmS w.heap.size g o k cs q l[k] z) := Lib.hid (PFK0 l[k] (List.getElem?_eq_getElem hlt))
      have P32 : Hid (l[k]).in32 := Lib.hid (H32.out _ (List.getElem_mem hlt))
      have hk0 : ¬ (k : Int) < 0 := by omega
      have hkl : ¬ (k : Int) ≥ (l.length : Int) := by omega
      generalize l[k] = p at *
      clear PFK0 hlt
      have VP := Lib.hid (fun (y : World) => ValidPacket_ok p y)
      obtain ⟨bp, hbp⟩ : ∃ b, vpB p = b := ⟨_, rfl⟩
      rw [hbp] at VP
      have HBP := Lib.hid hbp
      clear hbp
      unfold pktV at VP
      obtain ⟨_, ⟨c0, c1, c2, c3, c4⟩, _⟩ := SF.out _ H1.out.sd.kp
      go_upto_region 11 with fail
      go_wp2_with fail
      refine (VP.out _).mono ?_
      rintro e x2 ⟨rfl, k2⟩
      have H2 := Lib.hid (H1.out.no k2)
      clear k2 VP c0 c1 c2 c3 c4 H1
      cases bp
      · have KF := Lib.hid (H2.out.kpNo KW.out LO2.out)
        go_wp2
        go_ret
        exact ⟨rfl, KF.out⟩
      have PO := Lib.hid (vpB_true P32.out HBP.out)
      obtain ⟨_, ⟨c0, c1, c2, c3, c4⟩, _⟩ := SF.out _ H2.out.sd.kp
      have LT1 : Hid (∀ z, z ∈ l.take k ++ [p] → z.ok) := Lib.hid (fun z hz => by
        rcases List.mem_append.1 hz with hz | hz
        · exact HPO.out z hz
        · rw [List.mem_singleton.1 hz]; exact PO.out)
      have LN1 : Hid ((l.take k ++ [p]).length ≤ 6) := Lib.hid (by rw [← TK.out, List.length_take]; have := H6.out; omega)
      go_upto_region 13 with fail
      go_wp2_with fail
      refine (pk_in_ok H2.out p PO.out (by have := HLT.out; have := H6.out; omega)).mono ?_
      rintro e x3 ⟨rp, M3, L3, rfl, f⟩
      have H3 := Lib.hid f
      clear f
      go_wp2_with fail
      refine (or_in H3.out (l.take k) [p] (List.Mem.tail _ (List.Mem.tail _ (List.Mem.tail _ (List.Mem.head _)))) (List.Mem.head _) LT1.out (by have := LN1.out; omega) (by have := HLT.out; have := H6.out; omega)).mono ?_
      rintro e x4 ⟨rs2, M4, L4, rfl, f⟩
      have H4 := Lib.hid f
      clear f
      clear c0 c1 c2 c3 c4 H2 H3
      have HD1 : Hid ((D p).ok) := Lib.hid (DO.out p PO.out)
      have LT2 : Hid (∀ z, z ∈ (l.take k).map D ++ [D p] → z.ok) := Lib.hid (fun z hz => by
        rcases List.mem_append.1 hz with hz | hz
        · obtain ⟨u, hu, rfl⟩ := List.mem_map.1 hz
          exact DO.out u (HPO.out u hu)
        · rw [List.mem_singleton.1 hz]; exact HD1.out)
      have LN2 : Hid (((l.take k).map D ++ [D p]).length ≤ 6) := Lib.hid (by have := LN1.out; simp only [List.length_append, List.length_map] at this ⊢; omega)
      have NDP := Lib.hid (fun (y : World) (L' : Lay) (h : NatAt y pm L' cs ts) => ND.out p y h)
      unfold pktV at NDP
      go_upto_region 14 with fail
      have H5 := Lib.hid (H4.out.no (Kp.drew (w := x4)))
      refine wp_region_held_drew (S := TmS w.heap.size g o k cs q p) (by kernel_rfl) (SF.out _ H5.out.sd.kp) (fun hS => ?_)
      generalize x4.drew = x5 at *
      clear H4
      refine tk 0 hS ?_
      refine tk 1 hS ?_
      refine tk 2 hS ?_
      refine tk 3 (v := .agg cs) hS ?_ (hy := yields_load_rt (by kernel_rfl) _ rfl w.heap.size rfl cs CSZ.out (fun _ h => h.1))
      refine tk 4 hS ?_
      refine tk 5 hS ?_
      refine tk 6 hS ?_
      refine tk 7 hS ?_
      refine op1 8 (fun K hK => ?_)
      go_simp
      go_at_call 10
      refine (NDP.out _ _ (NF.out _ _ H5.out.sd.kp H5.out.sd.fr).1).mono ?_
      rintro e x6 ⟨rfl, k⟩
      have H6 := Lib.hid (H5.out.no k)
      clear k
      go_wp2_with fail
      refine hK.out _ _ (SF.out _ H6.out.sd.kp) (fun hHeld => ?_)
      clear hK K hS
      have hS := hHeld
      clear hHeld
      try simp only [Act.put, List.setIfInBounds_toArray, List.set_cons_zero, List.set_cons_succ]
      refine op1 9 (fun K hK => ?_)
      go_simp
      go_at_call 9
      refine (pk_in_ok H6.out (D p) HD1.out (by have := HLT.out; have := H6.out; omega)).mono ?_
      rintro e x7 ⟨rp2, M7, L7, rfl, f⟩
      have H7 := Lib.hid f
      clear f
      go_wp2_with fail
      refine hK.out _ _ (SF.out _ H7.out.sd.kp) (fun hHeld => ?_)
      clear hK K hS
      have hS := hHeld
      clear hHeld
      try simp only [Act.put, List.setIfInBounds_toArray, List.set_cons_zero, List.set_cons_succ]
      refine op1 10 (fun K hK => ?_)
      go_simp
      go_at_call 8
      refine (or_in H7.out ((l.take k).map D) [D p] (List.Mem.tail _ (List.Mem.tail _ (List.Mem.tail _ (List.Mem.tail _ (List.Mem.head _))))) (List.Mem.head _) LT2.out (by have := LN2.out; omega) (by have := HLT.out; have := H6.out; omega)).mono ?_
      rintro e x8 ⟨rt2, M8, L8, rfl, f⟩
      have H8 := Lib.hid f
      clear f
      go_wp2_with fail
      refine hK.out _ _ (SF.out _ H8.out.sd.kp) (fun hHeld => ?_)
      clear hK K hS
      have hS := hHeld
      clear hHeld
      try simp only [Act.put, List.setIfInBounds_toArray, List.set_cons_zero, List.set_cons_succ]
      refine tk 11 hS ?_
      refine wpAnyH_done (by kernel_rfl) ?_ _
      clear hS
      have NSP := Lib.hid (fun (y : World) (L' : Lay) (h : NatAt y pm L' cs ts) (h2 : AcAt y pm L' cs acs) => NS.out p P32.out y h h2)
      unfold pktV at NSP
      go_upto_region 15 with fail
      have H9 := Lib.hid (H8.out.no (Kp.drew (w := x8)))
      refine wp_region_held_drew (S := TmS w.heap.size g o k cs q p) (by kernel_rfl) (SF.out _ H9.out.sd.kp) (fun hS => ?_)
      generalize x8.drew = x9 at *
      clear H8
      have LW : Hid (∀ z, L8.at pm z → z < x9.heap.size) := Lib.hid (fun z h => H9.out.rep.lt z h)
      refine tk 0 (v := .agg cs) hS ?_ (hy := yields_load_rt (by kernel_rfl) _ rfl w.heap.size rfl cs CSZ.out (fun _ h => h.1))
      refine tk 1 hS ?_
      refine tk 2 hS ?_
      refine tk 3 hS ?_
      refine tk 4 hS ?_
      refine op1 5 (fun K hK => ?_)
      go_simp
      go_at_call 11
      refine (NSP.out _ _ (NF.out _ _ H9.out.sd.kp H9.out.sd.fr).1 (NF.out _ _ H9.out.sd.kp H9.out.sd.fr).2).mono ?_
      rintro e x10 ⟨vx, rfl, hv, k, ob⟩
      have H10 := Lib.hid (H9.out.no k)
      have PV := Lib.hid hv
      have OB := Lib.hid ob
      clear k hv ob
      go_wp2_with fail
      refine hK.out _ _ (SF.out _ H10.out.sd.kp) (fun hHeld => ?_)
      clear hK K hS
      have hS := hHeld
      clear hHeld
      try simp only [Act.put, List.setIfInBounds_toArray, List.set_cons_zero, List.set_cons_succ]
      refine tk 6 hS ?_
      refine wpAnyH_done (by kernel_rfl) ?_ _
      clear hS
      obtain ⟨xs, hxs⟩ : ∃ xs, xs = S p := ⟨_, rfl⟩
      have HXS := Lib.hid hxs
      rw [← hxs] at PV
      have XO : Hid ((∀ z, z ∈ xs → z.ok) ∧ xs.length ≤ 8) := Lib.hid (by rw [hxs]; exact SO.out p PO.out)
      clear hxs
      obtain ⟨vg, vc, rfl, vc1, vc2, vg1, _⟩ := id PV.out
      have NV : Hid (¬ L8.at pm vg) := Lib.hid (fun h => by have := LW.out _ h; have := OB.out vg rfl; omega)
      have PVF : Hid (∀ z, Kp (L8.at pm) x10 z → PksIn z (.slice (some ⟨vg, 0, none⟩) xs.length vc) xs) := Lib.hid (fun z k => PV.out.kp k (fun b e => by cases e; exact NV.out))
      obtain ⟨fr, hfr⟩ : ∃ fr, fr = (l.take k).flatMap S := ⟨_, rfl⟩
      have HFR := Lib.hid hfr
      have FRO : Hid ((∀ z, z ∈ fr → z.ok) ∧ fr.length ≤ 40) := Lib.hid (by
        rw [hfr]
        have hk5 : (l.take k).length ≤ 5 := by rw [List.length_take]; have := HLT.out; have := H6.out; omega
        have fl : ∀ t : List Pkt, (∀ z, z ∈ t → z.ok) → (t.flatMap S).length ≤ 8 * t.length := fun t ht => by
          induction t with
          | nil => exact Nat.le_refl _
          | cons z t ih =>
            have h1 := ih (fun y hy => ht y (List.mem_cons_of_mem _ hy))
            have h2 := (SO.out z (ht z (List.mem_cons_self ..))).2
            simp only [List.flatMap_cons, List.length_append, List.length_cons]
            omega
        have := fl _ HPO.out
        refine ⟨fun z hz => ?_, by omega⟩
        obtain ⟨u, hu, hz⟩ := List.mem_flatMap.1 hz
        exact (SO.out u (HPO.out u hu)).1 z hz)
      have HI : Hid (Hf x10 pm L8 220 (2 + k * 1100000000 + 200040000) x10 M8 L8 [(rf, ipF false fr), (rt2, ipF false ((l.take k).map D ++ [D p])), (rs2, ipF false (l.take k ++ [p]))]) := Lib.hid (by
        refine (H10.out.rebase.mono (by omega)).sub (fun x hx => ?_)
        rw [hfr] at hx
        rcases List.mem_cons.1 hx with rfl | hx
        · exact (List.Mem.tail _ (List.Mem.tail _ (List.Mem.tail _ (List.Mem.tail _ (List.Mem.head _)))))
        rcases List.mem_cons.1 hx with rfl | hx
        · exact (List.Mem.head _)
        · rw [List.mem_singleton.1 hx]; exact (List.Mem.tail _ (List.Mem.tail _ (List.Mem.head _))))
      clear hfr PV LW OB NV vg1
      have hxl : (xs.length : Int) ≤ 8 := by have := XO.out.2; omega
      go_upto_region 17 with fail
      go_loopg [10, 15] xs.length (fun gk s10 s15 x => TmI x10 pm L8 (2 + k * 1100000000 + 200040000) fr xs rt2 rs2 (ipF false ((l.take k).map D ++ [D p])) (ipF false (l.take k ++ [p])) gk s10 s15 x)
      case atStart => exact ⟨0, rf, _, _, by omega, rfl, rfl, (HI.out.cong (fun a => by rw [List.take_zero, List.append_nil])).mono (by omega)⟩
      case round =>
        obtain ⟨j, rf1, Mj, Lj, hj, rfl, rfl, hh⟩ := hrel
        have HJ := Lib.hid hj
        have J0 := Lib.hid hh
        clear hj hh
        by_cases hlj : j < xs.length
        · have HLJ := Lib.hid hlj
          have hlji : (j : Int) < xs.length := by omega
          have hj0 : ¬ (j : Int) < 0 := by omega
          have hjl : ¬ (j : Int) ≥ (xs.length : Int) := by omega
          obtain ⟨vg', vc', e, _, _, _, hcells⟩ := PVF.out _ J0.out.sd.kp
          cases e
          have XC := Lib.hid (hcells j xs[j] (List.getElem?_eq_getElem hlj))
          have XM : Hid (xs[j] ∈ xs) := Lib.hid (List.getElem_mem hlj)
          have TJ : Hid (xs.take (j + 1) = xs.take j ++ [xs[j]]) := Lib.hid (List.take_succ_eq_append_getElem hlj)
          generalize xs[j] = x at *
          have hj8 : j ≤ 8 := by have := XO.out.2; omega
          have LO4 : Hid ((∀ z, z ∈ (fr ++ xs.take j) ++ [x] → z.ok) ∧ ((fr ++ xs.take j) ++ [x]).length ≤ 60) := Lib.hid ⟨fun z hz => by
            rcases List.mem_append.1 hz with hz | hz
            · rcases List.mem_append.1 hz with hz | hz
              · exact FRO.out.1 z hz
              · exact XO.out.1 z (List.mem_of_mem_take hz)
            · rw [List.mem_singleton.1 hz]; exact XO.out.1 x XM.out, by
            have := FRO.out.2
            simp only [List.length_append, List.length_take, List.length_cons, List.length_nil]
            omega⟩
          obtain ⟨d0, d1, d2, d3, d4⟩ := XC.out
          clear hcells hlj XC
          go_wp2_with fail
          refine (pk_in_ok J0.out x (XO.out.1 x XM.out) (by have := HLT.out; have := H6.out; omega)).mono ?_
          rintro e z1 ⟨rj, M1', L1', rfl, f⟩
          have J1 := Lib.hid f
          clear f d0 d1 d2 d3 d4
          go_wp2_with fail
          refine (or_in J1.out (fr ++ xs.take j) [x] (List.Mem.tail _ (List.Mem.head _)) (List.Mem.head _) LO4.out.1 LO4.out.2 (by have := HLT.out; have := H6.out; omega)).mono ?_
          rintro e z2 ⟨rj2, M2', L2', rfl, f⟩
          have J2 : Hid (Hf x10 pm L8 220 (2 + k * 1100000000 + 200040000 + (j + 1) * 100020000) z2 M2' L2' [(rj2, ipF false (fr ++ xs.take (j + 1))), (rt2, ipF false ((l.take k).map D ++ [D p])), (rs2, ipF false (l.take k ++ [p]))]) := Lib.hid (by
            have e : ∀ a, ipF false (fr ++ xs.take j ++ [x]) a = ipF false (fr ++ xs.take (j + 1)) a := fun a => by rw [TJ.out, List.append_assoc]
            refine ((f.cong e).sub (fun u hu => ?_)).mono (by omega)
            rcases List.mem_cons.1 hu with rfl | hu
            · exact List.Mem.head _
            rcases List.mem_cons.1 hu with rfl | hu
            · exact (List.Mem.tail _ (List.Mem.tail _ (List.Mem.tail _ (List.Mem.head _))))
            · rw [List.mem_singleton.1 hu]; exact (List.Mem.tail _ (List.Mem.tail _ (List.Mem.tail _ (List.Mem.tail _ (List.Mem.head _))))))
          clear f J0 J1
          go_wp2_with fail
          go_roundg (xs.length - (j + 1))
          case measure => have := HJ.out; have := HLJ.out; omega
          case rel => exact ⟨j + 1, rj2, _, _, by have := HJ.out; have := HLJ.out; omega, by go_num, rfl, J2.out⟩
        · obtain rfl : j = xs.length := by have := HJ.out; omega
          have hge : ¬ (xs.length : Int) < xs.length := by omega
          have J1 : Hid (Hf W pm L 220 (2 + (k + 1) * 1100000000) wr Mj Lj [(rf1, ipF false ((l.take (k + 1)).flatMap S)), (rt2, ipF false ((l.take (k + 1)).map D)), (rs2, ipF false (l.take (k + 1)))]) := Lib.hid (by
            have h := (H10.out.then J0.out).mono (c' := 2 + (k + 1) * 1100000000) (by have := XO.out.2; omega)
            rw [TK.out, List.map_append, List.flatMap_append, ← HFR.out, List.map_singleton, List.flatMap_singleton, ← HXS.out]
            rw [List.take_length] at h
            exact h)
          clear hlj
          go_upto_region 20 with fail
          go_cut [11] from 88 to 99 (fun s11 x => s11 = .bool (reB (D q) (l.take (k + 1))) ∧ Kp No wr x)
          case first =>
            obtain ⟨bq, hbq⟩ : ∃ b, pkEq (D q) p = b := ⟨_, rfl⟩
            have RE : Hid (reB (D q) (l.take (k + 1)) = (t1 || bq)) := Lib.hid (by rw [TK.out, HB.out.1, ← hbq]; unfold reB; rw [List.any_append]; simp)
            have EQ := eqlPk (D q) p
            rw [hbq] at EQ
            have NDQ := Lib.hid (fun (y : World) (L' : Lay) (h : NatAt y pm L' cs ts) => ND.out q y h)
            unfold pktV at EQ NDQ
            have H1 := Lib.hid (J1.out.no (Kp.drew (w := wr)))
            have KD := Lib.hid (Kp.drew (w := wr))
            clear hbq
            refine wp_region_held_drew (S := TmS w.heap.size g o k cs q p) (by kernel_rfl) (SF.out _ H1.out.sd.kp) (fun hS => ?_)
            generalize wr.drew = x1 at *
            cases t1
            · refine tk 0 hS ?_
              refine tk 1 hS ?_
              refine tk 2 (v := .agg cs) hS ?_ (hy := yields_load_rt (by kernel_rfl) _ rfl w.heap.size rfl cs CSZ.out (fun _ h => h.1))
              refine tk 3 hS ?_
              refine tk 5 hS ?_
              refine tk 6 hS ?_
              refine tk 7 hS ?_
              refine tk 8 hS ?_
              refine op1 4 (fun K hK => ?_)
              go_simp
              go_at_call 10
              refine (NDQ.out _ _ (NF.out _ _ H1.out.sd.kp H1.out.sd.fr).1).mono ?_
              rintro e x2 ⟨rfl, k2⟩
              have H2 := Lib.hid (H1.out.no k2)
              have K2 := Lib.hid (KD.out.trans_no k2)
              clear k2
              go_wp2_with fail
              refine hK.out _ _ (SF.out _ H2.out.sd.kp) (fun hHeld => ?_)
              clear hK K hS
              have hS := hHeld
              clear hHeld
              try simp only [Act.put, List.setIfInBounds_toArray, List.set_cons_zero, List.set_cons_succ]
              refine tk 9 (v := .bool bq) hS ?_
              refine tk 10 hS ?_
              refine tk 11 hS ?_
              refine wpAnyH_done (by kernel_rfl) ?_ _
              clear hS EQ
              go_wp2_with fail
              go_meet
              case rel => exact ⟨by rw [RE.out]; rfl, K2.out⟩
            · refine tk 0 hS ?_
              refine tk 1 hS ?_
              refine tk 2 hS ?_
              refine tk 3 hS ?_
              refine tk 4 hS ?_
              refine tk 5 hS ?_
              refine tk 6 hS ?_
              refine tk 7 hS ?_
              refine tk 8 hS ?_
              refine tk 9 hS ?_
              refine tk 10 hS ?_
              refine tk 11 hS ?_
              refine wpAnyH_done (by kernel_rfl) ?_ _
              clear hS EQ
              go_wp2_with fail
              go_meet
              case rel => exact ⟨by rw [RE.out]; rfl, KD.out⟩
          case rest =>
          obtain ⟨e11, kx⟩ := hcut
          subst e11
          have J2 := Lib.hid (J1.out.no kx)
          clear kx J1
          generalize wc = xa at *
          go_upto_region 21 with fail
          obtain ⟨bq, hbq⟩ : ∃ b, hasB (S q) p = b := ⟨_, rfl⟩
          have RE : Hid (beB (S q) (l.take (k + 1)) = (t2 || bq)) := Lib.hid (by rw [TK.out, HB.out.2, ← hbq]; unfold beB; rw [List.any_append]; simp)
          have NSQ := Lib.hid (fun (y : World) (L' : Lay) (h : NatAt y pm L' cs ts) (h2 : AcAt y pm L' cs acs) => NS.out q HQ.out y h h2)
          have HAS := Lib.hid (fun (y : World) (v : Value) (h : PksIn y v (S q)) => has_ok (S q) p v y h)
          rw [hbq] at HAS
          unfold pktV at NSQ HAS
          have H1 := Lib.hid (J2.out.no (Kp.drew (w := xa)))
          have KD := Lib.hid (Kp.drew (w := xa))
          clear hbq
          refine wp_region_held_drew (S := TmS w.heap.size g o k cs q p) (by kernel_rfl) (SF.out _ H1.out.sd.kp) (fun hS => ?_)
          generalize xa.drew = x1 at *
          cases t2
          · refine tk 0 hS ?_
            refine tk 1 hS ?_
            refine tk 2 (v := .agg cs) hS ?_ (hy := yields_load_rt (by kernel_rfl) _ rfl w.heap.size rfl cs CSZ.out (fun _ h => h.1))
            refine tk 3 hS ?_
            refine tk 5 hS ?_
            refine tk 6 hS ?_
            refine tk 7 hS ?_
            refine tk 8 hS ?_
            refine op1 4 (fun K hK => ?_)
            go_simp
            go_at_call 11
            refine (NSQ.out _ _ (NF.out _ _ H1.out.sd.kp H1.out.sd.fr).1 (NF.out _ _ H1.out.sd.kp H1.out.sd.fr).2).mono ?_
            rintro e x2 ⟨vx, rfl, hv, k2, _⟩
            have H2 := Lib.hid (H1.out.no k2)
            have K2 := Lib.hid (KD.out.trans_no k2)
            have PV := Lib.hid hv
            clear k2 hv
            go_wp2_with fail
            refine hK.out _ _ (SF.out _ H2.out.sd.kp) (fun hHeld => ?_)
            clear hK K hS
            have hS := hHeld
            clear hHeld
            try simp only [Act.put, List.setIfInBounds_toArray, List.set_cons_zero, List.set_cons_succ]
            refine op1 9 (fun K hK => ?_)
            go_simp
            go_at_call 12
            refine (HAS.out _ _ PV.out).mono ?_
            rintro e x3 ⟨rfl, k3⟩
            have H3 := Lib.hid (H2.out.no k3)
            have K3 := Lib.hid (K2.out.trans_no k3)
            clear k3
            go_wp2_with fail
            refine hK.out _ _ (SF.out _ H3.out.sd.kp) (fun hHeld => ?_)
            clear hK K hS
            have hS := hHeld
            clear hHeld
            try simp only [Act.put, List.setIfInBounds_toArray, List.set_cons_zero, List.set_cons_succ]
            refine tk 10 hS ?_
            refine tk 11 hS ?_
            refine wpAnyH_done (by kernel_rfl) ?_ _
            clear hS
            have J3 := Lib.hid (J2.out.no K3.out)
            have OKN : Hid (∀ z, z ∈ l.take (k + 1) → z.ok) := Lib.hid (fun z hz => by rw [TK.out] at hz; exact LT1.out z hz)
            go_wp2_with fail
            go_roundg (l.length - (k + 1))
            case measure => have := HK.out; have := HLT.out; omega
            case rel => exact ⟨k + 1, rs2, rt2, rf1, _, _, _, _, by have := HK.out; have := HLT.out; omega, by go_num, rfl, rfl, rfl, rfl, rfl, OKN.out, rfl, RE.out.symm, J3.out⟩
          · refine tk 0 hS ?_
            refine tk 1 hS ?_
            refine tk 2 hS ?_
            refine tk 3 hS ?_
            refine tk 4 hS ?_
            refine tk 5 hS ?_
            refine tk 6 hS ?_
            refine tk 7 hS ?_
            refine tk 8 hS ?_
            refine tk 9 hS ?_
            refine tk 10 hS ?_
            refine tk 11 hS ?_
            refine wpAnyH_done (by kernel_rfl) ?_ _
            clear hS
            have J3 := Lib.hid (J2.out.no KD.out)
            have OKN : Hid (∀ z, z ∈ l.take (k + 1) → z.ok) := Lib.hid (fun z hz => by rw [TK.out] at hz; exact LT1.out z hz)
            go_wp2_with fail
            go_roundg (l.length - (k + 1))
            case measure => have := HK.out; have := HLT.out; omega
            case rel => exact ⟨k + 1, rs2, rt2, rf1, _, _, _, _, by have := HK.out; have := HLT.out; omega, by go_num, rfl, rfl, rfl, rfl, rfl, OKN.out, rfl, RE.out.symm, J3.out⟩
    · obtain rfl : k = l.length := by have := HK.out; omega
      have hge : ¬ (l.length : Int) < l.length := by omega
      have LOK : Hid (∀ z, z ∈ l → z.ok) := Lib.hid (fun z hz => HPO.out z (by rw [List.take_length]; exact hz))
      have HT : Hid (t1 = reB (D q) l ∧ t2 = beB (S q) l) := Lib.hid (by have := HB.out; rw [List.take_length] at this; exact this)
      have H2' : Hid (Hf W pm L 220 7000000000 x1 M1 L1 [(rf, ipF false (l.flatMap S)), (rt, ipF false (l.map D)), (rs, ipF false l)]) := Lib.hid (by
        have h := H1.out.mono (c' := 7000000000) (by have := H6.out; omega)
        rw [List.take_length] at h
        exact h)
      obtain ⟨Fd, hFd⟩ : ∃ F, F = dstF (ts.map (Tr.ent (acG acs))) := ⟨_, rfl⟩
      obtain ⟨Fs, hFs⟩ : ∃ F, F = srcF (ts.map (Tr.ent (acG acs))) := ⟨_, rfl⟩
      have HFD : Hid (∀ a, Fd a = true ↔ pkA true a ∈ [D (pkA false a)]) := Lib.hid (fun a => by rw [hFd, List.mem_singleton, HD.out]; exact dst_pk (acG acs) ts HTS.out.2 a)
      have HFS : Hid (∀ a, Fs a = true ↔ pkA true a ∈ S (pkA false a)) := Lib.hid (fun a => by rw [hFs, HS.out]; exact src_pk (acG acs) ts HTS.out.2 a)
      have JD : Hid (∀ e, JA (ltD e) (l.map fun q w => Fd (setN q w)) (2 ^ 22)) := Lib.hid (fun e => by
        rw [hFd]
        exact dst_ja _ (fun x hx => by obtain ⟨t, ht, rfl⟩ := List.mem_map.1 hx; exact Tr.ent_ok (HTS.out.2 t ht) (acG_le HLE.out)) (by rw [List.length_map]; exact HTS.out.1) l H6.out (ltD e))
      have JSS : Hid (∀ e, JA (ltD e) (l.map fun q w => Fs (setN q w)) (7 * 11 * 7 * 65536)) := Lib.hid (fun e => by
        rw [hFs]
        exact src_ja (acG acs) ts HTS.out.2 (fun t _ => acG_le HLE.out) HTS.out.1 l LOK.out H6.out e)
      have p64 : Hid (2 ^ l.length ≤ 64) := Lib.hid (Nat.pow_le_pow_right (by omega) H6.out (n := 2))
      have CD : Hid (∀ (c : Nat) (M : Mgr) (L' : Lay) (B : List (Int × Bfn)) (y : World), Hf W pm L 220 c y M L' B → c ≤ 400000000000 → Calls Tryz.prog 13 #[ptr pm, .agg cs] y (OpQ pm 220 (c + 1000000000) L' y Fd B)) := Lib.hid (fun c M L' B y h hc => by
        rw [hFd]
        exact Dest_ok cs CSZ.out ts (acG acs) HTS.out.1 HTS.out.2 (fun t _ => acG_le HLE.out) h.rep h.qk h.gl h.off (NF.out y L' h.sd.kp h.sd.fr).1 hc)
      have CS : Hid (∀ (c : Nat) (M : Mgr) (L' : Lay) (B : List (Int × Bfn)) (y : World), Hf W pm L 220 c y M L' B → c ≤ 200000000000 → Calls Tryz.prog 14 #[ptr pm, .agg cs] y (OpQ pm 220 (c + 260000000000) L' y Fs B)) := Lib.hid (fun c M L' B y h hc => by
        rw [hFs]
        exact Source_ok cs CSZ.out ts acs HLE.out HRO.out HTS.out.1 HTS.out.2 h.rep h.qk h.gl h.off (NF.out y L' h.sd.kp h.sd.fr).1 (NF.out y L' h.sd.kp h.sd.fr).2 hc)
      have SF : Hid (∀ z, Kp (L.at pm) W z → TmR w.heap.size cs q z) := Lib.hid (fun z k => ⟨(RF.out z k).r, (RF.out z k).q.c⟩)
      clear hFd hFs H1 hlt PF
      go_upto_region 22 with fail
      have H1 := H2'
      generalize x1 = x2 at *
      have H2 := H1
      clear H1 H2'
      have H3 := Lib.hid (H2.out.no (Kp.drew (w := x2)))
      refine wp_region_held_drew (S := TmR w.heap.size cs q) (by kernel_rfl) (SF.out _ H3.out.sd.kp) (fun hS => ?_)
      generalize x2.drew = x3 at *
      clear H2
      refine tk 0 hS ?_
      refine tk 1 (v := .agg cs) hS ?_ (hy := yields_load_rt (by kernel_rfl) _ rfl w.heap.size rfl cs CSZ.out (fun _ h => h.1))
      refine tk 3 hS ?_
      refine tk 4 (v := .agg cs) hS ?_ (hy := yields_load_rt (by kernel_rfl) _ rfl w.heap.size rfl cs CSZ.out (fun _ h => h.1))
      refine op1 2 (fun K hK => ?_)
      go_simp
      go_at_call 13
      refine (CD.out _ _ _ _ _ H3.out (by omega)).mono ?_
      intro e x4 oq
      obtain ⟨rd, M4, L4, rfl, _, f⟩ := H3.out.step oq
      have H4 := Lib.hid f
      clear f oq
      go_wp2_with fail
      refine hK.out _ _ (SF.out _ H4.out.sd.kp) (fun hHeld => ?_)
      clear hK K hS
      have hS := hHeld
      clear hHeld
      try simp only [Act.put, List.setIfInBounds_toArray, List.set_cons_zero, List.set_cons_succ]
      refine op1 5 (fun K hK => ?_)
      go_simp
      go_at_call 14
      refine (CS.out _ _ _ _ _ H4.out (by omega)).mono ?_
      intro e x5 oq
      obtain ⟨rq, M5, L5, rfl, _, f⟩ := H4.out.step oq
      have H5 := Lib.hid f
      clear f oq
      go_wp2_with fail
      refine hK.out _ _ (SF.out _ H5.out.sd.kp) (fun hHeld => ?_)
      clear hK K hS
      have hS := hHeld
      clear hHeld
      try simp only [Act.put, List.setIfInBounds_toArray, List.set_cons_zero, List.set_cons_succ]
      refine tk 6 hS ?_
      refine tk 7 hS ?_
      refine wpAnyH_done (by kernel_rfl) ?_ _
      clear hS
      have H0 : Hid (Hf W pm L 220 270000000000 x5 M5 L5 [(rq, Fs), (rd, Fd), (rf, ipF false (l.flatMap S)), (rt, ipF false (l.map D)), (rs, ipF false l)]) := Lib.hid (H5.out.mono (by omega))
      clear H5 CD CS
      have IMD := image_points l LOK.out (fun p => [D p]) (fun z hz r hr => by rw [List.mem_singleton.1 hr]; exact DO.out z (LOK.out z hz)) (F := fun a => Fd a && ipF false l a) (fun u => by
        rw [Bool.and_eq_true, HFD.out, ipF_iff]
        exact And.comm)
      have IMS := image_points l LOK.out S (fun z hz r hr => (SO.out z (LOK.out z hz)).1 r hr) (F := fun a => Fs a && ipF false l a) (fun u => by
        rw [Bool.and_eq_true, HFS.out, ipF_iff]
        exact And.comm)
      rw [flat_one D l] at IMD
      have SL : Hid ((l.flatMap S).length ≤ 48) := Lib.hid (by
        have fl : ∀ t : List Pkt, (∀ z, z ∈ t → z.ok) → (t.flatMap S).length ≤ 8 * t.length := fun t ht => by
          induction t with
          | nil => exact Nat.le_refl _
          | cons z t ih =>
            have h1 := ih (fun y hy => ht y (List.mem_cons_of_mem _ hy))
            have h2 := (SO.out z (ht z (List.mem_cons_self ..))).2
            simp only [List.flatMap_cons, List.length_append, List.length_cons]
            omega
        have := fl l LOK.out
        have := H6.out
        omega)
      have I1 := Lib.hid (Image_ok (r := rd) (f := rs) (N := 1000000) (s := 7) H0.out.rep H0.out.qk H0.out.gl H0.out.off (List.Mem.tail _ (List.Mem.head _)) (List.Mem.tail _ (List.Mem.tail _ (List.Mem.tail _ (List.Mem.tail _ (List.Mem.head _))))) (curB_ok H0.out.qk (List.Mem.tail _ (List.Mem.tail _ (List.Mem.tail _ (List.Mem.tail _ (List.Mem.head _))))) (ip_cur l)) (fun M hn hp => (IMD.1 M hn hp).mono (fun _ h => h) (by
        have h1 := p64.out
        have h2 : (l.map D).length + 1 ≤ 7 := by rw [List.length_map]; have := H6.out; omega
        have := Nat.mul_le_mul h1 h2
        omega)) (by rw [IMD.2.1]; exact (ipF_st true _ IMD.2.2).mono (by rw [List.length_map]; have := H6.out; omega)) (by omega))
      rw [IMD.2.1, xch_in] at I1
      go_wp2_with fail
      refine I1.out.mono ?_
      intro e x6 oq
      obtain ⟨r6, M6, L6, rfl, _, f⟩ := H0.out.step oq
      have e6 : r6 = rt := f.qk.eq (List.Mem.head _) (List.Mem.tail _ (List.Mem.tail _ (List.Mem.tail _ (List.Mem.tail _ (List.Mem.head _))))) (fun a => rfl)
      subst e6
      have H6' : Hid (Hf W pm L 220 270100000000 x6 M6 L6 [(rq, Fs), (rd, Fd), (rf, ipF false (l.flatMap S)), (rs, ipF false l)]) := Lib.hid ((f.mono (by omega)).sub (fun x hx => by
        rcases List.mem_cons.1 hx with rfl | hx
        · exact (List.Mem.tail _ (List.Mem.head _))
        rcases List.mem_cons.1 hx with rfl | hx
        · exact (List.Mem.tail _ (List.Mem.tail _ (List.Mem.head _)))
        rcases List.mem_cons.1 hx with rfl | hx
        · exact (List.Mem.tail _ (List.Mem.tail _ (List.Mem.tail _ (List.Mem.head _))))
        · rw [List.mem_singleton.1 hx]; exact (List.Mem.tail _ (List.Mem.tail _ (List.Mem.tail _ (List.Mem.tail _ (List.Mem.tail _ (List.Mem.head _))))))))
      clear f oq I1 H0
      have I2 := Lib.hid (Image_ok (r := rq) (f := rs) (N := 1000000) (s := 49) H6'.out.rep H6'.out.qk H6'.out.gl H6'.out.off (List.Mem.head _) (List.Mem.tail _ (List.Mem.tail _ (List.Mem.tail _ (List.Mem.head _)))) (curB_ok H6'.out.qk (List.Mem.tail _ (List.Mem.tail _ (List.Mem.tail _ (List.Mem.head _)))) (ip_cur l)) (fun M hn hp => (IMS.1 M hn hp).mono (fun _ h => h) (by
        have h1 := p64.out
        have h2 : (l.flatMap S).length + 1 ≤ 49 := by have := SL.out; omega
        have := Nat.mul_le_mul h1 h2
        omega)) (by rw [IMS.2.1]; exact (ipF_st true _ IMS.2.2).mono (by have := SL.out; omega)) (by omega))
      rw [IMS.2.1, xch_in] at I2
      go_wp2_with fail
      refine I2.out.mono ?_
      intro e x7 oq
      obtain ⟨r7, M7, L7, rfl, _, f⟩ := H6'.out.step oq
      have e7 : r7 = rf := f.qk.eq (List.Mem.head _) (List.Mem.tail _ (List.Mem.tail _ (List.Mem.tail _ (List.Mem.head _)))) (fun a => rfl)
      subst e7
      have H7 : Hid (Hf W pm L 220 270200000000 x7 M7 L7 [(rq, Fs), (rd, Fd), (rs, ipF false l)]) := Lib.hid ((f.mono (by omega)).sub (fun x hx => by
        rcases List.mem_cons.1 hx with rfl | hx
        · exact (List.Mem.tail _ (List.Mem.head _))
        rcases List.mem_cons.1 hx with rfl | hx
        · exact (List.Mem.tail _ (List.Mem.tail _ (List.Mem.head _)))
        · rw [List.mem_singleton.1 hx]; exact (List.Mem.tail _ (List.Mem.tail _ (List.Mem.tail _ (List.Mem.tail _ (List.Mem.head _)))))))
      clear f oq I2 H6'
      have ENC : Hid (∀ (a b : Pkt), a.in32 → b.in32 → ∀ y : World, Gl y → Calls Tryz.prog 16 #[.slice none 0 0, pktV a, pktV b] y (EncPost y (encF (fun _ => false) a b))) := Lib.hid (fun a b ha hb y h => by
        have e : dnF [] = fun _ => false := by funext v; simp [dnF]
        have := Encode_ok [] a b ha hb h (dv := .slice none 0 0) ⟨none, 0, rfl, rfl, .inl rfl⟩ (by simp)
        rw [e] at this
        exact this)
      unfold pktV at ENC
      obtain ⟨_, c0, c1, c2, c3, c4⟩ := SF.out _ H7.out.sd.kp
      go_wp2_with fail
      refine (ENC.out q pkz HQ.out pkz_ok.in32 x7 H7.out.gl).mono ?_
      rintro e x8 ⟨gc, rfl, row, k⟩
      have H8 := Lib.hid (H7.out.no k)
      have NG : Hid (¬ L7.at pm gc) := Lib.hid (fun h => by have h1 := H7.out.rep.lt _ h; have h2 := (row.lt gc rfl).1; omega)
      have BF : Hid (∀ y, Kp (L7.at pm) x8 y → Bools y (.slice (some ⟨gc, 0, none⟩) 220 220) (gL (encF (fun _ => false) q pkz))) := Lib.hid (by
        have rw' := row
        exact fun y k => bools_row (ownsRow_kp rw' k (fun b e => by cases e; exact NG.out)))
      have H9 := Lib.hid H8.out.rebase
      clear row k c0 c1 c2 c3 c4 H7 ENC
      have PID := preimage_points l LOK.out (fun p => [D p]) (R := Fd) (F := fun a => Fd a && rnF xch (ipF false l) a) HFD.out (fun u => by rw [Bool.and_eq_true, xch_in, ipF_iff]; rfl) JD.out
      have PIS := preimage_points l LOK.out S (R := Fs) (F := fun a => Fs a && rnF xch (ipF false l) a) HFS.out (fun u => by rw [Bool.and_eq_true, xch_in, ipF_iff]; rfl) JSS.out
      have I3 := Lib.hid (Preimage_ok (r := rd) (f := rs) (N := 60000000000) (s := 7) H9.out.rep H9.out.qk H9.out.gl H9.out.off (List.Mem.tail _ (List.Mem.head _)) (List.Mem.tail _ (List.Mem.tail _ (List.Mem.head _))) (curB_ok H9.out.qk (List.Mem.tail _ (List.Mem.tail _ (List.Mem.head _))) (ip_cur l)) (fun M hn hp => (PID.1 M hn hp).mono (fun _ h => h) (by
        have h1 := p64.out
        have := Nat.mul_le_mul h1 (Nat.le_refl (2 ^ 22))
        omega)) ((ipF_st false l LOK.out).mono (by have := H6.out; omega)) (by omega))
      have E1 : Hid (exQ (hvK true 104) (fun a => Fd a && rnF xch (ipF false l) a) (asg (gL (encF (fun _ => false) q pkz))) = t1) := Lib.hid (by
        rw [Bool.eq_iff_iff, PID.2, pkA_enc QO.out, HT.out.1]
        unfold reB
        rw [List.any_eq_true]
        constructor
        · rintro ⟨z, hz, e⟩
          exact ⟨z, hz, pkEq_iff.2 (List.mem_singleton.1 e).symm⟩
        · rintro ⟨z, hz, e⟩
          exact ⟨z, hz, List.mem_singleton.2 (pkEq_iff.1 e).symm⟩)
      have E2 : Hid (exQ (hvK true 104) (fun a => Fs a && rnF xch (ipF false l) a) (asg (gL (encF (fun _ => false) q pkz))) = t2) := Lib.hid (by
        rw [Bool.eq_iff_iff, PIS.2, pkA_enc QO.out, HT.out.2]
        unfold beB
        rw [List.any_eq_true]
        constructor
        · rintro ⟨z, hz, e⟩
          exact ⟨z, hz, hasB_iff.2 e⟩
        · rintro ⟨z, hz, e⟩
          exact ⟨z, hz, hasB_iff.1 e⟩)
      go_wp2_with fail
      refine I3.out.mono ?_
      intro e x10 oq
      obtain ⟨r10, M10, L10, rfl, _, f⟩ := H9.out.step oq
      have H10 := Lib.hid (f.mono (c' := 340000000000) (by omega))
      have EV := Lib.hid (EvalQ H10.out.rep H10.out.qk (List.Mem.head _) (BF.out _ H10.out.sd.kp))
      rw [E1.out] at EV
      clear f oq I3
      go_wp2_with fail
      refine EV.out.mono ?_
      rintro e x11 ⟨rfl, k⟩
      have H11 := Lib.hid (H10.out.no k)
      clear k EV H10
      have I4 := Lib.hid (Preimage_ok (r := rq) (f := rs) (N := 500000000000) (s := 7) H11.out.rep H11.out.qk H11.out.gl H11.out.off (List.Mem.tail _ (List.Mem.head _)) (List.Mem.tail _ (List.Mem.tail _ (List.Mem.tail _ (List.Mem.head _)))) (curB_ok H11.out.qk (List.Mem.tail _ (List.Mem.tail _ (List.Mem.tail _ (List.Mem.head _)))) (ip_cur l)) (fun M hn hp => (PIS.1 M hn hp).mono (fun _ h => h) (by
        have h1 := p64.out
        have := Nat.mul_le_mul h1 (Nat.le_refl (7 * 11 * 7 * 65536))
        omega)) ((ipF_st false l LOK.out).mono (by have := H6.out; omega)) (by omega))
      have beq : (t1 == t1) = true := by simp
      have beq2 : (t2 == t2) = true := by simp
      go_wp2_with fail
      refine I4.out.mono ?_
      intro e x12 oq
      obtain ⟨r12, M12, L12, rfl, _, f⟩ := H11.out.step oq
      have H12 := Lib.hid f
      have EV := Lib.hid (EvalQ H12.out.rep H12.out.qk (List.Mem.head _) (BF.out _ H12.out.sd.kp))
      rw [E2.out] at EV
      clear f oq I4
      go_wp2_with fail
      refine EV.out.mono ?_
      rintro e x13 ⟨rfl, k⟩
      have KF := Lib.hid ((H8.out.then (H12.out.no k)).kpNo KW.out LO2.out)
      clear k EV H12
      go_wp2_with fail
      go_ret
      exact ⟨rfl, KF.out⟩

end Go.Proofs.YtcebhlhpmdladaaGreatDoor
