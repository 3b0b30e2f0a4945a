/-
  Walks: 'within', the law QuantDuals.
-/
import Derived.Test.YtngbodmooddjbaaQd
import Derived.Test.YtngbodmooddjbaaQu
import Derived.Deep.CutBlock
namespace Go.Proofs.Ytngbodmooddjbaa
open Go.RowKit

theorem SrcAt.cut {w : World} {b0 g n cap : Nat} {t : TypeId} {vs : List Value} (h : w.ownsRow b0 t 1 (.slice (some ⟨g, 0, none⟩) n cap) n vs) {o m c : Nat} (hm : o + m ≤ n) : SrcAt w (.slice (some ⟨g, o, none⟩) m c) 1 m ((vs.drop o).take m) := by
  have hlen : vs.length = n * 1 := h.1
  refine ⟨_, c, rfl, by simp; omega, ?_⟩
  rcases Nat.eq_zero_or_pos m with h0 | h0
  · exact .inl (by subst h0; simp)
  · obtain ⟨g', c', hv, _, _, _, hc, _⟩ := ownsRow_open h (by omega)
    cases hv
    refine .inr ⟨g, o, rfl, (h.lt g rfl).2, fun j u hu => ?_⟩
    rw [List.getElem?_take] at hu
    split at hu
    · rw [List.getElem?_drop] at hu
      exact hc _ _ hu
    · cases hu
theorem SrcAt.nil {w : World} {a : Option Addr} {m c : Nat} {vs : List Value} (hm : m = 0) (hv : vs = []) : SrcAt w (.slice a m c) 1 m vs := by
  subst hm hv
  exact ⟨a, c, rfl, rfl, .inl rfl⟩

def SuR (w : World) (N gk : Nat) (s : Value) (x : World) : Prop := ∃ k, k + gk = N ∧ s = .int .i64 (k : Int) ∧ Kp No w x
def WiR (w : World) (n : Nat) (ls : List Int) (gk : Nat) (s5 s6 : Value) (x : World) : Prop :=
  ∃ k v, k + gk = ls.length ∧ s6 = .int .i64 (k : Int) ∧ v = s5 ∧ x.ownsRow w.heap.size 3 1 v k (((ls.take k).map fun z => pick z n).map natV) ∧ Kp No w x
set_option maxRecDepth 100000 in
set_option maxHeartbeats 1000000 in
theorem within_ok (n : Nat) (h0 : 0 < n) (hn : n ≤ 1000000) (ls : List Int) (hl : ls.length ≤ 1000000) {lv : Value} {w : World} (hd : SrcAt w lv 1 ls.length (ls.map intV)) : Calls Try.prog 24 #[lv, .int .i64 (n : Int)] w (NatsPost w (ls.map fun z => pick z n)) := by
  obtain ⟨i0, hi0, hz0, hz1, hz2⟩ := info_parts info_int
  have HD := Lib.hid hd
  obtain ⟨al, cl, rfl⟩ := hd.form
  clear hd
  go_enter Try.func24, Try.ntmps24
  go_wp2
  go_loopg [5, 6] ls.length (fun gk s5 s6 wr => WiR w n ls gk s5 s6 wr)
  case atStart => exact ⟨0, _, by omega, rfl, rfl, World.ownsRow_nil _ _ _ _, Kp.refl _ _⟩
  case round =>
    obtain ⟨k, v, hk, rfl, e5, own, kp⟩ := hrel
    subst e5
    by_cases hlt : k < ls.length
    · have hsz := kp.size
      have HK := Lib.hid hk
      have KP := Lib.hid kp
      have OWN := Lib.hid own
      have hlti : (k : Int) < ls.length := by omega
      obtain ⟨g1, o1, c1, hv1, _, hc1⟩ := (HD.out.no kp).cellAt (by omega)
      cases hv1
      have d1 := hc1 k (.int .i64 (ls.getD k 0)) (by simp [intV, hlt])
      have PK := Lib.hid (Pick_ok (ls.getD k 0) n wr h0 (by omega))
      have HT : Hid (((ls.take (k + 1)).map fun z => pick z n).map natV = ((ls.take k).map fun z => pick z n).map natV ++ [.int .i64 (pick (ls.getD k 0) n : Int)]) := Lib.hid (by
        rw [List.take_succ_eq_append_getElem hlt, List.map_append, List.map_append]
        simp [hlt, natV])
      clear hk kp hc1
      generalize ls.getD k 0 = z at *
      go_wp2_with fail
      refine PK.out.mono ?_
      rintro e w' ⟨rfl, rfl⟩
      go_wp2_with (at_builtin; refine wpList_append_lies _ rfl (.tmp 13) (.tmp 20) _ rfl w.heap.size 3 i0 _ 1 8 Try.underlying33 hi0 hz0 hz1 hz2 rfl (by omega) v k (((ls.take k).map fun z => pick z n).map natV) rfl (own.alloc _) ⟨wr.heap.size, 0, none⟩ 1 1 [.int .i64 (pick z n : Int)] rfl rfl (World.news_of_block (heap_alloc_new _ _)) (by simp [Value.oneCell']) (by omega) (by unfold maxLen; omega) (by omega) (by simp; omega) (wr.heap.size + 1) (by simp) ?_; intro g cap w1 hown hgrow hat hlt2)
      have JN : Hid (WiR w n ls (ls.length - (k + 1)) (.slice (some ⟨g, 0, none⟩) (k + 1) cap) (.int .i64 ((k + 1 : Nat) : Int)) w1) := by
        have kg : Kp (fun x => v.ownBlock = some x) wr w1 := grown_no (Kp.alloc _) hgrow
        refine ⟨k + 1, _, by omega, rfl, rfl, ?_, KP.out.trans (A' := fun x => v.ownBlock = some x) (fun x h => .inr (OWN.out.lt x h).1) kg⟩
        rw [HT.out]
        exact hown
      clear hown hgrow hat hlt2 own
      go_wp2
      go_roundg (ls.length - (k + 1))
      case measure => have := HK.out; omega
      case rel => exact JN.out
    · obtain rfl : k = ls.length := by omega
      have P : Hid (NatsPost w (ls.map fun z => pick z n) (.returned v) wr) := ⟨v, rfl, by rw [List.take_length] at own; rw [List.length_map]; exact own, kp⟩
      have hlti : ¬ (ls.length : Int) < ls.length := by omega
      clear own kp hk
      go_wp2
      go_ret
      exact P.out

set_option maxRecDepth 1000000 in
set_option maxHeartbeats 16000000 in
theorem QuantDuals_walk (x : Int) (l : List Stp) {sv : Value} {w : World} (hs : StepsAt w sv l) (i1 i2 : Int) (ls : List Int) {wv : Value} (hls : IntsAt w wv ls) (cut : Int) :
    Calls Try.prog 5 #[.int .i64 x, sv, .int .i64 i1, .int .i64 i2, wv, .int .i64 cut] w fun e w' => e = .returned (.bool true) ∧ Kp No w w' := by
  obtain ⟨hn1, hn6⟩ := nv_le x
  have VA := Lib.hid (fun w => Vars_ok x w)
  generalize nv x = n at *
  have NEW := Lib.hid (fun (w0 : World) (k0 : Kp No w w0) => New_own (n := n) (by omega) k0)
  have ST := Lib.hid hs
  obtain ⟨ao, c, rfl, _⟩ := hs
  have HSW := Lib.hid (SrcAt.of_intsAt hls)
  have HLM := Lib.hid (IntsAt.lenMax hls)
  obtain ⟨aw, cw, rfl, _, _⟩ := hls
  by_cases hlong : 12 < ls.length
  · have hlongi : (12 : Int) < ls.length := by omega
    by_cases h30 : 30 < l.length
    · have h30i : (30 : Int) < l.length := by omega
      go_enter Try.func5, Try.ntmps5
      go_wp2_with fail
      refine (qawake_ok w).mono ?_
      rintro e w0 ⟨rfl, k0⟩
      have K0 := Lib.hid k0
      clear k0
      go_wp2_with fail
      go_ret
      exact ⟨rfl, K0.out⟩
    · have h30i : ¬ (30 : Int) < l.length := by omega
      go_enter Try.func5, Try.ntmps5
      go_wp2_with fail
      refine (qawake_ok w).mono ?_
      rintro e w0 ⟨rfl, k0⟩
      have K0 := Lib.hid k0
      clear k0
      go_wp2_with fail
      go_ret
      exact ⟨rfl, K0.out⟩
  have hlongi : ¬ (12 : Int) < ls.length := by omega
  by_cases h40 : l.length ≤ 30
  · have hl : ¬ (30 : Int) < l.length := by omega
    go_enter Try.func5, Try.ntmps5
    go_wp2_with fail
    refine (qawake_ok w).mono ?_
    rintro e w0 ⟨rfl, k0⟩
    have K0 := Lib.hid k0
    clear k0
    go_wp2_with fail
    refine (VA.out w0).mono ?_
    rintro e w0' ⟨rfl, rfl⟩
    go_wp2_with fail
    refine (NEW.out w0 K0.out).mono ?_
    rintro e w1 ⟨p, L1, rfl, s1, k1⟩
    have S1 := Lib.hid s1
    clear s1 k1 NEW
    go_wp2_with fail
    refine (Run_own hn6 hn1 S1.out (by omega) ST.out).mono ?_
    rintro e w2 ⟨fv, tv, L2, tvs, rfl, fr⟩
    obtain ⟨rp, hFl⟩ := run_rp hn1 hn6 l (by omega)
    have pl := run_plain hn1 hn6 l
    generalize runM (Mgr.new n) n l = X at *
    generalize runF n l = Fs at *
    obtain ⟨M, fs⟩ := X
    simp only at fr rp pl
    have hpos := rp.pos
    have hfl : fs.length ≤ 100 := by rw [← fr.flen]; omega
    obtain ⟨gf, cf, gt, ct, rfl, rfl, lf, lt⟩ := fr.forms (by omega)
    have FR := Lib.hid fr
    have RPH := Lib.hid rp
    have PLH := Lib.hid pl
    clear fr rp hFl pl
    have h1 := pick_lt i1 (n := fs.length) (by omega)
    have h2 := pick_lt i2 (n := fs.length) (by omega)
    have P1 := Lib.hid (fun (z : World) => Pick_ok i1 fs.length z (by omega) (by omega))
    have P2 := Lib.hid (fun (z : World) => Pick_ok i2 fs.length z (by omega) (by omega))
    have ALL : Hid (∀ y M' L', Front w p n y M' L' (.slice (some ⟨gf, 0, none⟩) fs.length cf) (.slice (some ⟨gt, 0, none⟩) fs.length ct) fs Fs tvs → y.cell? ⟨gf, pick i1 fs.length, none⟩ = some (.int .i64 (fs.getD (pick i1 fs.length) 0)) ∧ y.cell? ⟨gf, pick i2 fs.length, none⟩ = some (.int .i64 (fs.getD (pick i2 fs.length) 0)) ∧ y.cell? ⟨gt, pick i1 fs.length, none⟩ = some (tvs.getD (pick i1 fs.length) (.bool false)) ∧ y.cell? ⟨gt, pick i2 fs.length, none⟩ = some (tvs.getD (pick i2 fs.length) (.bool false)) ∧ Tb w.heap.size y (tvs.getD (pick i1 fs.length) (.bool false)) (tab n (Fs.getD (pick i1 fs.length) (fun _ => false))) ∧ Tb w.heap.size y (tvs.getD (pick i2 fs.length) (.bool false)) (tab n (Fs.getD (pick i2 fs.length) (fun _ => false)))) := Lib.hid (fun y M' L' j => ⟨j.cellF h1, j.cellF h2, j.cellT h1, j.cellT h2, (j.tabAt h1).1, (j.tabAt h2).1⟩)
    have BK0 := Lib.hid ((Qk.of_rp RPH.out PLH.out).sub (B' := [(fs.getD (pick i1 fs.length) 0, Fs.getD (pick i1 fs.length) (fun _ => false)), (fs.getD (pick i2 fs.length) 0, Fs.getD (pick i2 fs.length) (fun _ => false))]) (fun x hx => by
      have e := FR.out.flen
      rcases List.mem_cons.1 hx with rfl | hx
      · exact mem_zipQ h1 e
      · rw [List.mem_singleton.1 hx]; exact mem_zipQ h2 e))
    have lai : (pick i1 fs.length : Int) < fs.length := by omega
    have lbi : (pick i2 fs.length : Int) < fs.length := by omega
    generalize fs.getD (pick i1 fs.length) 0 = f at *
    generalize fs.getD (pick i2 fs.length) 0 = g at *
    generalize Fs.getD (pick i1 fs.length) (fun _ => false) = F at *
    generalize Fs.getD (pick i2 fs.length) (fun _ => false) = G at *
    generalize tvs.getD (pick i1 fs.length) (.bool false) = ta at *
    generalize tvs.getD (pick i2 fs.length) (.bool false) = tb at *
    generalize pick i1 fs.length = ia at *
    generalize pick i2 fs.length = ib at *
    clear RPH PLH h1 h2 hpos hfl lf lt S1 ST VA K0
    have hlm := HLM.out
    unfold maxLen at hlm
    have F0 := Lib.hid (FR.out.no Kp.drew)
    have S0 := Lib.hid (show w2.drew.cell? ⟨gf, ia, none⟩ = some (.int .i64 f) ∧ w2.drew.cell? ⟨gf, ib, none⟩ = some (.int .i64 g) from ⟨(ALL.out _ _ _ F0.out).1, (ALL.out _ _ _ F0.out).2.1⟩)
    clear FR ALL
    go_upto_region 10 with fail
    go_region_held3 (fun y => y.cell? ⟨gf, ia, none⟩ = some (.int .i64 f) ∧ y.cell? ⟨gf, ib, none⟩ = some (.int .i64 g)) (exact S0.out) (first | (go_at_call 20; first | ((with_reducible refine (P1.out _).mono ?_); rintro e wa ⟨rfl, rfl⟩) | ((with_reducible refine (P2.out _).mono ?_); rintro e wa ⟨rfl, rfl⟩)))
    clear S0 P1 P2
    generalize w2.drew = w3 at *
    have WI := Lib.hid (within_ok n (by omega) (by omega) ls (by omega) (HSW.out.no F0.out.own.kp))
    obtain ⟨ms, hms0⟩ : ∃ ms, ls.map (fun z => pick z n) = ms := ⟨_, rfl⟩
    have hms : ∀ v, v ∈ ms → v < n := fun v hv => by
      rw [← hms0] at hv
      obtain ⟨z, _, rfl⟩ := List.mem_map.1 hv
      exact pick_lt z (by omega)
    obtain ⟨m, hm⟩ : ∃ m, ms.length = m := ⟨_, rfl⟩
    have hm12 : m ≤ 12 := by rw [← hm, ← hms0, List.length_map]; omega
    have hml : ms.length ≤ 1000000 := by omega
    rw [hms0] at WI
    have HMS := Lib.hid hms
    have HM := Lib.hid hm
    clear hms0 HSW HLM hlm hlongi
    go_wp2_with fail
    refine WI.out.mono ?_
    rintro e w4 ⟨v1, rfl, r1, k1⟩
    rw [hm] at r1
    obtain ⟨a3, d3, rfl⟩ := rowForm r1
    have FD := Lib.hid (FrL.mk (F0.out.no k1) (ownsRow_mono r1 F0.out.own.kp.size) (fun k hk hA => by
      have h1 := (r1.lt k hk).1
      have h2 := F0.out.own.rep.lt k hA
      omega))
    have QD := Lib.hid BK0.out
    have hmd : m ≤ d3 := by
      rcases Nat.eq_zero_or_pos m with h | h
      · omega
      · obtain ⟨_, _, hv, hle, _⟩ := ownsRow_open r1 h
        cases hv
        exact hle
    have SN : Hid (∀ y M' L', FrL w p n y M' L' (.slice (some ⟨gf, 0, none⟩) fs.length cf) (.slice (some ⟨gt, 0, none⟩) fs.length ct) fs Fs tvs (.slice a3 m d3) m (ms.map natV) → SrcAt y (.slice a3 m d3) 1 ms.length (ms.map natV)) := Lib.hid (fun y M' L' j => by rw [HM.out]; exact j.src)
    have OFS : Hid (∀ y M' L', FrL w p n y M' L' (.slice (some ⟨gf, 0, none⟩) fs.length cf) (.slice (some ⟨gt, 0, none⟩) fs.length ct) fs Fs tvs (.slice a3 m d3) m (ms.map natV) → ∀ g o, a3 = some ⟨g, o, none⟩ → ¬ L'.at p g) := Lib.hid (fun y M' L' j g o h => j.offS g o m d3 (by rw [h]))
    obtain ⟨m1, hm1⟩ : ∃ m1, m1 = m + 1 := ⟨_, rfl⟩
    have hc1 := pick_lt cut (n := m1) (by omega)
    have PC := Lib.hid (fun (z : World) => Pick_ok cut m1 z (by omega) (by omega))
    have hmw2 : ((m : Int) + 1) = (m1 : Int) := by omega
    have hmw : IntKind.i64.wrap ((m : Int) + 1) = (m1 : Int) := by rw [hmw2]; exact IntWalk.i64_in _ ⟨by omega, by omega⟩
    generalize pick cut m1 = kc at *
    have hcm : kc ≤ m := by omega
    have hcb0 : (0 : Int) ≤ (kc : Int) := by omega
    have hcb1 : (kc : Int) ≤ (m : Int) := by omega
    have hcb2 : (kc : Int) ≤ (d3 : Int) := by omega
    clear WI k1 r1 F0 BK0 hm1
    go_wp2_with fail
    refine (PC.out _).mono ?_
    rintro e w' ⟨rfl, rfl⟩
    clear PC hmw hmw2 hc1
    have HLP : Hid (∀ g : Nat, (Option.map (fun x : Addr => x.add kc) (some ⟨g, 0, none⟩)) = some ⟨g, kc, none⟩) := Lib.hid (fun g => by
      by_cases hc0 : kc = 0 <;> simp [Addr.add, hc0])
    have HL2 : Hid (∀ z : Addr, Option.map (fun x : Addr => x.add kc) a3 = some z → ∃ z0, a3 = some z0 ∧ z.block = z0.block) := Lib.hid (fun z hz => by
      cases ha : a3 with
      | none => rw [ha] at hz; cases hz
      | some z0 =>
        rw [ha] at hz
        injection hz with hz
        refine ⟨z0, rfl, ?_⟩
        rw [← hz]
        by_cases hc0 : kc = 0 <;> simp [Addr.add, hc0])
    have SDR : Hid (∀ y M' L' (a : Option Addr) (k cc : Nat), FrL w p n y M' L' (.slice (some ⟨gf, 0, none⟩) fs.length cf) (.slice (some ⟨gt, 0, none⟩) fs.length ct) fs Fs tvs (.slice a3 m d3) m (ms.map natV) → k = m - kc → (∀ g, a3 = some ⟨g, 0, none⟩ → kc < m → a = some ⟨g, kc, none⟩) → SrcAt y (.slice a k cc) 1 (ms.drop kc).length ((ms.drop kc).map natV)) := Lib.hid (fun y M' L' a k cc j hk ha => by
      have hl : (ms.drop kc).length = m - kc := by rw [List.length_drop, HM.out]
      rw [hl, hk]
      by_cases h : kc < m
      · obtain ⟨g, cap, hv, hle, _⟩ := ownsRow_open j.row (by omega)
        cases hv
        rw [ha g rfl h]
        have := SrcAt.cut (o := kc) (m := m - kc) (c := cc) j.row (by omega)
        rw [← List.map_drop, List.take_of_length_le (by rw [List.length_map]; omega)] at this
        exact this
      · exact SrcAt.nil (by omega) (by rw [List.drop_of_length_le (by have := HM.out; omega)]; rfl))
    have STK : Hid (∀ y M' L' (a : Option Addr) (cc : Nat), FrL w p n y M' L' (.slice (some ⟨gf, 0, none⟩) fs.length cf) (.slice (some ⟨gt, 0, none⟩) fs.length ct) fs Fs tvs (.slice a3 m d3) m (ms.map natV) → (∀ g, a3 = some ⟨g, 0, none⟩ → 0 < m → a = some ⟨g, 0, none⟩) → SrcAt y (.slice a kc cc) 1 (ms.take kc).length ((ms.take kc).map natV)) := Lib.hid (fun y M' L' a cc j ha => by
      have hl : (ms.take kc).length = kc := by rw [List.length_take]; have := HM.out; omega
      rw [hl]
      rcases Nat.eq_zero_or_pos m with h | h
      · exact SrcAt.nil (by omega) (by rw [show kc = 0 by omega]; rfl)
      · obtain ⟨g, cap, hv, _⟩ := ownsRow_open j.row h
        cases hv
        rw [ha g rfl h]
        have := SrcAt.cut (o := 0) (m := kc) (c := cc) j.row (by omega)
        rw [List.drop_zero, ← List.map_take] at this
        exact this)
    have ODR : Hid (∀ y M' L' (a : Option Addr) (k0 c0 : Nat), FrL w p n y M' L' (.slice (some ⟨gf, 0, none⟩) fs.length cf) (.slice (some ⟨gt, 0, none⟩) fs.length ct) fs Fs tvs (.slice a3 m d3) m (ms.map natV) → (∀ z, a = some z → ∃ z0, a3 = some z0 ∧ z.block = z0.block) → ∀ g o k cc, (Value.slice a k0 c0) = .slice (some ⟨g, o, none⟩) k cc → ¬ L'.at p g) := Lib.hid (fun y M' L' a k0 c0 j ha g o k cc h => by
      injection h with h _ _
      obtain ⟨z0, h0, h1⟩ := ha _ h
      rcases j.row.2 with ⟨hv, _⟩ | ⟨g3, cap, cur, hv, _⟩
      · cases hv; cases h0
      · cases hv
        have hn := j.offS g3 0 m _ rfl
        cases h0
        rw [show g = g3 from h1]
        exact hn)
    have HDR : Hid (∀ v, v ∈ ms.drop kc → v < n) := Lib.hid (fun v hv => HMS.out v (List.mem_of_mem_drop hv))
    have HTK : Hid (∀ v, v ∈ ms.take kc → v < n) := Lib.hid (fun v hv => HMS.out v (List.mem_of_mem_take hv))
    go_wp2_with fail
    (have CA := ExistsS hn6 FD.out.fr.own.rep QD.out (by omega) (f := f) (F := F) (by repeat (first | exact List.Mem.head _ | apply List.Mem.tail)) ms hml hms (SN.out _ _ _ FD.out); (refine CA.mono ?_); clear CA; rintro e wa ⟨x1, Ma, ha, qa, _⟩; obtain ⟨rfl, La, fa⟩ := FD.out.step ha; replace FD := Lib.hid fa; replace QD := Lib.hid qa; clear ha qa fa)
    go_wp2_with fail
    (have CA := ForAllS hn6 FD.out.fr.own.rep QD.out (by omega) (f := f) (F := F) (by repeat (first | exact List.Mem.head _ | apply List.Mem.tail)) ms hml hms (SN.out _ _ _ FD.out) FD.out.offS; (refine CA.mono ?_); clear CA; rintro e wa ⟨y1, Ma, ha, qa, _⟩; obtain ⟨rfl, La, fa⟩ := FD.out.step ha; replace FD := Lib.hid fa; replace QD := Lib.hid qa; clear ha qa fa)
    go_wp2_with fail
    (have CA := NotS hn6 FD.out.fr.own.rep QD.out (by omega) (f := f) (F := F) (by repeat (first | exact List.Mem.head _ | apply List.Mem.tail)); (refine CA.mono ?_); clear CA; rintro e wa ⟨n1, Ma, ha, qa, _⟩; obtain ⟨rfl, La, fa⟩ := FD.out.step ha; replace FD := Lib.hid fa; replace QD := Lib.hid qa; clear ha qa fa)
    go_wp2_with fail
    (have CA := ExistsS hn6 FD.out.fr.own.rep QD.out (by omega) (f := n1) (F := (fun a => !F a)) (by repeat (first | exact List.Mem.head _ | apply List.Mem.tail)) ms hml hms (SN.out _ _ _ FD.out); (refine CA.mono ?_); clear CA; rintro e wa ⟨n2, Ma, ha, qa, _⟩; obtain ⟨rfl, La, fa⟩ := FD.out.step ha; replace FD := Lib.hid fa; replace QD := Lib.hid qa; clear ha qa fa)
    go_wp2_with fail
    (have CA := NotS hn6 FD.out.fr.own.rep QD.out (by omega) (f := n2) (F := exQ ms (fun a => !F a)) (by repeat (first | exact List.Mem.head _ | apply List.Mem.tail)); (refine CA.mono ?_); clear CA; rintro e wa ⟨zz, Ma, ha, qa, _⟩; have er : y1 = zz := qa.eq (f := y1) (F := alQ ms F) (g := zz) (G := fun a => !exQ ms (fun a => !F a) a) (by repeat (first | exact List.Mem.head _ | apply List.Mem.tail)) (List.Mem.head _) (fun _ => rfl); obtain ⟨rfl, La, fa⟩ := FD.out.step ha; subst er; replace FD := Lib.hid fa; replace QD := Lib.hid qa.tail; clear ha qa fa)
    replace FD := Lib.hid (FD.out.no Kp.drew)
    go_upto_region 15 with fail
    have three : (d3 = 0 ∧ m = 0 ∧ kc = 0) ∨ (d3 ≠ 0 ∧ d3 = kc) ∨ (d3 ≠ 0 ∧ d3 ≠ kc) := by omega
    rcases three with ⟨rfl, rfl, rfl⟩ | ⟨hd0, rfl⟩ | ⟨hd0, hd1⟩
    · go_region_held3 (fun y => True) (exact trivial) (first | (go_at_call 25; first | (have CA := ExistsS hn6 FD.out.fr.own.rep QD.out (by omega) (f := f) (F := F) (by repeat (first | exact List.Mem.head _ | apply List.Mem.tail)) (ms.drop 0) (by rw [List.length_drop]; omega) HDR.out (SDR.out _ _ _ a3 0 0 FD.out (by omega) (fun g hg hlt => by omega)); (with_reducible refine CA.mono ?_); clear CA; rintro e wa ⟨b1, Ma, ha, qa, _⟩; obtain ⟨rfl, La, fa⟩ := FD.out.step ha; replace FD := Lib.hid fa; replace QD := Lib.hid qa; clear ha qa fa) | (have CA := ExistsS hn6 FD.out.fr.own.rep QD.out (by omega) (f := f) (F := F) (by repeat (first | exact List.Mem.head _ | apply List.Mem.tail)) (ms.drop 0) (by rw [List.length_drop]; omega) HDR.out (SDR.out _ _ _ (Option.map (fun x => x.add 0) a3) (0 - 0) (0 - 0) FD.out rfl (fun g hg hlt => by rw [hg]; exact HLP.out g)); (with_reducible refine CA.mono ?_); clear CA; rintro e wa ⟨b1, Ma, ha, qa, _⟩; obtain ⟨rfl, La, fa⟩ := FD.out.step ha; replace FD := Lib.hid fa; replace QD := Lib.hid qa; clear ha qa fa) | (have CA := ExistsS hn6 FD.out.fr.own.rep QD.out (by omega) (f := b1) (F := (exQ (ms.drop 0) F)) (by repeat (first | exact List.Mem.head _ | apply List.Mem.tail)) (ms.take 0) (by rw [List.length_take]; omega) HTK.out (STK.out _ _ _ a3 0 FD.out (fun g hg hlt => hg)); (with_reducible refine CA.mono ?_); clear CA; rintro e wa ⟨zz, Ma, ha, qa, _⟩; have er : x1 = zz := qa.eq (f := x1) (F := exQ ms F) (g := zz) (G := exQ (ms.take 0) (exQ (ms.drop 0) F)) (by repeat (first | exact List.Mem.head _ | apply List.Mem.tail)) (List.Mem.head _) (fun a => by rw [exQ_parts]); obtain ⟨rfl, La, fa⟩ := FD.out.step ha; subst er; replace FD := Lib.hid fa; replace QD := Lib.hid qa.tail; clear ha qa fa) | (have CA := ExistsS hn6 FD.out.fr.own.rep QD.out (by omega) (f := b1) (F := (exQ (ms.drop 0) F)) (by repeat (first | exact List.Mem.head _ | apply List.Mem.tail)) (ms.take 0) (by rw [List.length_take]; omega) HTK.out (STK.out _ _ _ a3 0 FD.out (fun g hg hlt => hg)); (with_reducible refine CA.mono ?_); clear CA; rintro e wa ⟨zz, Ma, ha, qa, _⟩; have er : x1 = zz := qa.eq (f := x1) (F := exQ ms F) (g := zz) (G := exQ (ms.take 0) (exQ (ms.drop 0) F)) (by repeat (first | exact List.Mem.head _ | apply List.Mem.tail)) (List.Mem.head _) (fun a => by rw [exQ_parts]); obtain ⟨rfl, La, fa⟩ := FD.out.step ha; subst er; replace FD := Lib.hid fa; replace QD := Lib.hid qa.tail; clear ha qa fa) | (trace_state; fail)) | (go_at_call 26; first | (have CA := ForAllS hn6 FD.out.fr.own.rep QD.out (by omega) (f := f) (F := F) (by repeat (first | exact List.Mem.head _ | apply List.Mem.tail)) (ms.take 0) (by rw [List.length_take]; omega) HTK.out (STK.out _ _ _ a3 0 FD.out (fun g hg hlt => hg)) (ODR.out _ _ _ _ _ _ FD.out (by first | exact fun z hz => ⟨z, hz, rfl⟩ | exact HL2.out)); (with_reducible refine CA.mono ?_); clear CA; rintro e wa ⟨b3, Ma, ha, qa, _⟩; obtain ⟨rfl, La, fa⟩ := FD.out.step ha; replace FD := Lib.hid fa; replace QD := Lib.hid qa; clear ha qa fa) | (have CA := ForAllS hn6 FD.out.fr.own.rep QD.out (by omega) (f := f) (F := F) (by repeat (first | exact List.Mem.head _ | apply List.Mem.tail)) (ms.take 0) (by rw [List.length_take]; omega) HTK.out (STK.out _ _ _ a3 0 FD.out (fun g hg hlt => hg)) (ODR.out _ _ _ _ _ _ FD.out (by first | exact fun z hz => ⟨z, hz, rfl⟩ | exact HL2.out)); (with_reducible refine CA.mono ?_); clear CA; rintro e wa ⟨b3, Ma, ha, qa, _⟩; obtain ⟨rfl, La, fa⟩ := FD.out.step ha; replace FD := Lib.hid fa; replace QD := Lib.hid qa; clear ha qa fa) | (have CA := ForAllS hn6 FD.out.fr.own.rep QD.out (by omega) (f := b3) (F := (alQ (ms.take 0) F)) (by repeat (first | exact List.Mem.head _ | apply List.Mem.tail)) (ms.drop 0) (by rw [List.length_drop]; omega) HDR.out (SDR.out _ _ _ a3 0 0 FD.out (by omega) (fun g hg hlt => by omega)) (ODR.out _ _ _ _ _ _ FD.out (by first | exact fun z hz => ⟨z, hz, rfl⟩ | exact HL2.out)); (with_reducible refine CA.mono ?_); clear CA; rintro e wa ⟨zz, Ma, ha, qa, _⟩; have er : y1 = zz := qa.eq (f := y1) (F := alQ ms F) (g := zz) (G := alQ (ms.drop 0) (alQ (ms.take 0) F)) (by repeat (first | exact List.Mem.head _ | apply List.Mem.tail)) (List.Mem.head _) (fun a => by rw [alQ_parts]); obtain ⟨rfl, La, fa⟩ := FD.out.step ha; subst er; replace FD := Lib.hid fa; replace QD := Lib.hid qa.tail; clear ha qa fa) | (have CA := ForAllS hn6 FD.out.fr.own.rep QD.out (by omega) (f := b3) (F := (alQ (ms.take 0) F)) (by repeat (first | exact List.Mem.head _ | apply List.Mem.tail)) (ms.drop 0) (by rw [List.length_drop]; omega) HDR.out (SDR.out _ _ _ (Option.map (fun x => x.add 0) a3) (0 - 0) (0 - 0) FD.out rfl (fun g hg hlt => by rw [hg]; exact HLP.out g)) (ODR.out _ _ _ _ _ _ FD.out (by first | exact fun z hz => ⟨z, hz, rfl⟩ | exact HL2.out)); (with_reducible refine CA.mono ?_); clear CA; rintro e wa ⟨zz, Ma, ha, qa, _⟩; have er : y1 = zz := qa.eq (f := y1) (F := alQ ms F) (g := zz) (G := alQ (ms.drop 0) (alQ (ms.take 0) F)) (by repeat (first | exact List.Mem.head _ | apply List.Mem.tail)) (List.Mem.head _) (fun a => by rw [alQ_parts]); obtain ⟨rfl, La, fa⟩ := FD.out.step ha; subst er; replace FD := Lib.hid fa; replace QD := Lib.hid qa.tail; clear ha qa fa)))
      go_wp2_with fail
      (have CA := OrS hn6 FD.out.fr.own.rep QD.out (by omega) (f := f) (F := F) (g := g) (G := G) (by repeat (first | exact List.Mem.head _ | apply List.Mem.tail)) (by repeat (first | exact List.Mem.head _ | apply List.Mem.tail)); (refine CA.mono ?_); clear CA; rintro e wa ⟨c1, Ma, ha, qa, _⟩; obtain ⟨rfl, La, fa⟩ := FD.out.step ha; replace FD := Lib.hid fa; replace QD := Lib.hid qa; clear ha qa fa)
      go_wp2_with fail
      (have CA := ExistsS hn6 FD.out.fr.own.rep QD.out (by omega) (f := c1) (F := (fun a => F a || G a)) (by repeat (first | exact List.Mem.head _ | apply List.Mem.tail)) ms hml hms (SN.out _ _ _ FD.out); (refine CA.mono ?_); clear CA; rintro e wa ⟨c2, Ma, ha, qa, _⟩; obtain ⟨rfl, La, fa⟩ := FD.out.step ha; replace FD := Lib.hid fa; replace QD := Lib.hid qa; clear ha qa fa)
      go_wp2_with fail
      (have CA := ExistsS hn6 FD.out.fr.own.rep QD.out (by omega) (f := g) (F := G) (by repeat (first | exact List.Mem.head _ | apply List.Mem.tail)) ms hml hms (SN.out _ _ _ FD.out); (refine CA.mono ?_); clear CA; rintro e wa ⟨c3, Ma, ha, qa, _⟩; obtain ⟨rfl, La, fa⟩ := FD.out.step ha; replace FD := Lib.hid fa; replace QD := Lib.hid qa; clear ha qa fa)
      go_wp2_with fail
      (have CA := OrS hn6 FD.out.fr.own.rep QD.out (by omega) (f := x1) (F := (exQ ms F)) (g := c3) (G := (exQ ms G)) (by repeat (first | exact List.Mem.head _ | apply List.Mem.tail)) (by repeat (first | exact List.Mem.head _ | apply List.Mem.tail)); (refine CA.mono ?_); clear CA; rintro e wa ⟨zz, Ma, ha, qa, _⟩; have er : c2 = zz := qa.eq (f := c2) (F := exQ ms (fun a => F a || G a)) (g := zz) (G := fun a => exQ ms F a || exQ ms G a) (by repeat (first | exact List.Mem.head _ | apply List.Mem.tail)) (List.Mem.head _) (fun a => exQ_or ms F G a); obtain ⟨rfl, La, fa⟩ := FD.out.step ha; subst er; replace FD := Lib.hid fa; replace QD := Lib.hid qa.tail; clear ha qa fa)
      go_wp2_with fail
      (have CA := AndS hn6 FD.out.fr.own.rep QD.out (by omega) (f := f) (F := F) (g := g) (G := G) (by repeat (first | exact List.Mem.head _ | apply List.Mem.tail)) (by repeat (first | exact List.Mem.head _ | apply List.Mem.tail)); (refine CA.mono ?_); clear CA; rintro e wa ⟨c5, Ma, ha, qa, _⟩; obtain ⟨rfl, La, fa⟩ := FD.out.step ha; replace FD := Lib.hid fa; replace QD := Lib.hid qa; clear ha qa fa)
      go_wp2_with fail
      (have CA := ForAllS hn6 FD.out.fr.own.rep QD.out (by omega) (f := c5) (F := (fun a => F a && G a)) (by repeat (first | exact List.Mem.head _ | apply List.Mem.tail)) ms hml hms (SN.out _ _ _ FD.out) FD.out.offS; (refine CA.mono ?_); clear CA; rintro e wa ⟨c6, Ma, ha, qa, _⟩; obtain ⟨rfl, La, fa⟩ := FD.out.step ha; replace FD := Lib.hid fa; replace QD := Lib.hid qa; clear ha qa fa)
      go_wp2_with fail
      (have CA := ForAllS hn6 FD.out.fr.own.rep QD.out (by omega) (f := g) (F := G) (by repeat (first | exact List.Mem.head _ | apply List.Mem.tail)) ms hml hms (SN.out _ _ _ FD.out) FD.out.offS; (refine CA.mono ?_); clear CA; rintro e wa ⟨c7, Ma, ha, qa, _⟩; obtain ⟨rfl, La, fa⟩ := FD.out.step ha; replace FD := Lib.hid fa; replace QD := Lib.hid qa; clear ha qa fa)
      go_wp2_with fail
      (have CA := AndS hn6 FD.out.fr.own.rep QD.out (by omega) (f := y1) (F := (alQ ms F)) (g := c7) (G := (alQ ms G)) (by repeat (first | exact List.Mem.head _ | apply List.Mem.tail)) (by repeat (first | exact List.Mem.head _ | apply List.Mem.tail)); (refine CA.mono ?_); clear CA; rintro e wa ⟨zz, Ma, ha, qa, _⟩; have er : c6 = zz := qa.eq (f := c6) (F := alQ ms (fun a => F a && G a)) (g := zz) (G := fun a => alQ ms F a && alQ ms G a) (by repeat (first | exact List.Mem.head _ | apply List.Mem.tail)) (List.Mem.head _) (fun a => by rw [alQ_and]); obtain ⟨rfl, La, fa⟩ := FD.out.step ha; subst er; replace FD := Lib.hid fa; replace QD := Lib.hid qa.tail; clear ha qa fa)
      go_wp2_with fail
      (have CA := AndExS hn6 FD.out.fr.own.rep QD.out (by omega) (f := f) (F := F) (g := g) (G := G) (by repeat (first | exact List.Mem.head _ | apply List.Mem.tail)) (by repeat (first | exact List.Mem.head _ | apply List.Mem.tail)) ms hml hms (SN.out _ _ _ FD.out); (refine CA.mono ?_); clear CA; rintro e wa ⟨d1, Ma, ha, qa, _⟩; obtain ⟨rfl, La, fa⟩ := FD.out.step ha; replace FD := Lib.hid fa; replace QD := Lib.hid qa; clear ha qa fa)
      go_wp2_with fail
      (have CA := AndS hn6 FD.out.fr.own.rep QD.out (by omega) (f := f) (F := F) (g := g) (G := G) (by repeat (first | exact List.Mem.head _ | apply List.Mem.tail)) (by repeat (first | exact List.Mem.head _ | apply List.Mem.tail)); (refine CA.mono ?_); clear CA; rintro e wa ⟨zz, Ma, ha, qa, _⟩; have er : c5 = zz := qa.eq (f := c5) (F := (fun a => F a && G a)) (g := zz) (G := (fun a => F a && G a)) (by repeat (first | exact List.Mem.head _ | apply List.Mem.tail)) (List.Mem.head _) (fun _ => rfl); obtain ⟨rfl, La, fa⟩ := FD.out.step ha; subst er; replace FD := Lib.hid fa; replace QD := Lib.hid qa.tail; clear ha qa fa)
      go_wp2_with fail
      (have CA := ExistsS hn6 FD.out.fr.own.rep QD.out (by omega) (f := c5) (F := (fun a => F a && G a)) (by repeat (first | exact List.Mem.head _ | apply List.Mem.tail)) ms hml hms (SN.out _ _ _ FD.out); (refine CA.mono ?_); clear CA; rintro e wa ⟨zz, Ma, ha, qa, _⟩; have er : d1 = zz := qa.eq (f := d1) (F := exQ ms (fun a => F a && G a)) (g := zz) (G := exQ ms (fun a => F a && G a)) (by repeat (first | exact List.Mem.head _ | apply List.Mem.tail)) (List.Mem.head _) (fun _ => rfl); obtain ⟨rfl, La, fa⟩ := FD.out.step ha; subst er; replace FD := Lib.hid fa; replace QD := Lib.hid qa.tail; clear ha qa fa)
      replace QD := Lib.hid QD.out.consts
      go_wp2_with fail
      (have CA := AndExS hn6 FD.out.fr.own.rep QD.out (by omega) (f := f) (F := F) (g := 1) (G := (fun _ => true)) (by repeat (first | exact List.Mem.head _ | apply List.Mem.tail)) (by repeat (first | exact List.Mem.head _ | apply List.Mem.tail)) ms hml hms (SN.out _ _ _ FD.out); (refine CA.mono ?_); clear CA; rintro e wa ⟨zz, Ma, ha, qa, _⟩; have er : x1 = zz := qa.eq (f := x1) (F := exQ ms F) (g := zz) (G := exQ ms (fun a => F a && true)) (by repeat (first | exact List.Mem.head _ | apply List.Mem.tail)) (List.Mem.head _) (fun a => by simp only [Bool.and_true]); obtain ⟨rfl, La, fa⟩ := FD.out.step ha; subst er; replace FD := Lib.hid fa; replace QD := Lib.hid qa.tail; clear ha qa fa)
      have SG := Lib.hid (sup_gone (l := ms) (f := x1) (F := F) QD.out (by repeat (first | exact List.Mem.head _ | apply List.Mem.tail)))
      have HSL := Lib.hid (show (Mgr.supM Ma x1).length ≤ 6 from Nat.le_trans (Mgr.supM_len _ _) (by rw [QD.out.nn]; exact hn6))
      have SP := Lib.hid (Support_ok x1 FD.out.fr.own.rep (by rw [QD.out.nn]; omega))
      go_wp2_with fail
      refine SP.out.mono ?_
      rintro e ws ⟨sv, rfl, srow, ks⟩
      replace FD := Lib.hid (FD.out.no ks)
      obtain ⟨ss, hss⟩ : ∃ ss, Mgr.supM Ma x1 = ss := ⟨_, rfl⟩
      rw [hss] at srow SG HSL
      obtain ⟨sa, sc, rfl⟩ := rowForm srow
      have SROW := Lib.hid srow
      have HSS := Lib.hid hss
      have hsl6 : (ss.length : Int) ≤ 6 := by have := HSL.out; omega
      have O0 : Hid (SuR ws ss.length ss.length (.int .i64 0) ws) := Lib.hid ⟨0, by omega, rfl, Kp.refl _ _⟩
      clear hss srow ks SP
      go_wp2_with fail
      go_loopg [27, 28] ss.length (fun gk s27 s28 x => SuR ws ss.length gk s27 x)
      case atStart => exact O0.out
      case round =>
        clear O0
        obtain ⟨k, hk, rfl, kp⟩ := hrel
        obtain ⟨wo, hwo⟩ : ∃ wo, wo = wr := ⟨_, rfl⟩
        subst hwo
        have HK := Lib.hid hk
        have KP := Lib.hid kp
        by_cases hlt : k < ss.length
        · have hlti : (k : Int) < ss.length := by omega
          have I0 : Hid (SuR wo 0 0 (.int .i64 0) wo) := Lib.hid ⟨0, by omega, rfl, Kp.refl _ _⟩
          obtain ⟨g1, o1, c1, hv1, _, hcs⟩ := ((SrcAt.of_row SROW.out).no kp).cellAt (by omega)
          cases hv1
          have ds := hcs k (natV (ss.getD k 0)) (by simp [hlt])
          have DS := Lib.hid ds
          have NE : Hid (ss.getD k 0 ∉ ms) := Lib.hid (SG.out _ (by rw [List.getD_eq_getElem?_getD, List.getElem?_eq_getElem hlt]; exact List.getElem_mem hlt))
          have SRC := Lib.hid (FD.out.src.no kp)
          clear hk kp hcs ds
          generalize ss.getD k 0 = sk at *
          go_wp2_with fail
          go_loopg [28] 0 (fun gk s28 x => SuR wo 0 gk s28 x)
          case atStart => exact I0.out
          case round =>
            clear I0
            obtain ⟨j, hj, rfl, kp2⟩ := hrel
            have HJ := Lib.hid hj
            have KP2 := Lib.hid kp2
            by_cases hlt2 : j < 0
            · have hlti2 : (j : Int) < 0 := by omega
              have hjm : j < ms.length := by have := HM.out; omega
              obtain ⟨g2, o2, c2, hv2, _, hcl⟩ := (SRC.out.no kp2).cellAt (by omega)
              cases hv2
              have dl := hcl j (natV (ms.getD j 0)) (by simp [hjm])
              have hne : ((sk : Int) == ((ms.getD j 0 : Nat) : Int)) = false := by
                have hm : ms.getD j 0 ∈ ms := by rw [List.getD_eq_getElem?_getD, List.getElem?_eq_getElem hjm]; exact List.getElem_mem hjm
                have hx : sk ≠ ms.getD j 0 := fun e => NE.out (by rw [e]; exact hm)
                have hx2 : ¬ (sk : Int) = ((ms.getD j 0 : Nat) : Int) := by omega
                rw [beq_eq_false_iff_ne]
                exact hx2
              have ds2 := (KP2.out.cell (a := ⟨g1, o1 + k, none⟩) (World.block_lt_of_cell? _ _ DS.out) (fun z => z)).trans DS.out
              have JN : Hid (∀ y, Kp No wr y → SuR wo 0 (0 - (j + 1)) (.int .i64 ((j + 1 : Nat) : Int)) y) := Lib.hid (fun y ky => ⟨j + 1, by have := HJ.out; omega, rfl, KP2.out.trans_no ky⟩)
              unfold natV at dl ds2
              clear hj kp2 hcl
              generalize ms.getD j 0 = lj at *
              go_wp2_with fail
              go_quiet (fail)
              go_wp2_with fail
              go_roundg (0 - (j + 1))
              case measure => have := HJ.out; omega
              case rel => exact JN.out _ (Kp.drewN _)
            · have hge2 : ¬ (j : Int) < 0 := by omega
              have ON : Hid (SuR ws ss.length (ss.length - (k + 1)) (.int .i64 ((k + 1 : Nat) : Int)) wr) := Lib.hid ⟨k + 1, by have := HK.out; omega, rfl, KP.out.trans_no KP2.out⟩
              clear hj kp2
              go_wp2_with fail
              go_roundg (ss.length - (k + 1))
              case measure => have := HK.out; omega
              case rel => exact ON.out
        · have hge : ¬ (k : Int) < ss.length := by omega
          replace FD := Lib.hid (FD.out.no kp)
          clear hk kp
          have U0 := Lib.hid (QD.out.rd (f := f) (F := F) (by repeat (first | exact List.Mem.head _ | apply List.Mem.tail))).upto
          go_wp2_with fail
          (have CA := ImpliesS hn6 FD.out.fr.own.rep QD.out (by omega) (f := y1) (F := alQ ms F) (g := f) (G := F) (by repeat (first | exact List.Mem.head _ | apply List.Mem.tail)) (by repeat (first | exact List.Mem.head _ | apply List.Mem.tail)) true (⟨fun _ a h => alQ_le ms F a h, fun _ => rfl⟩); (refine CA.mono ?_); clear CA; rintro e wa ⟨Ma, ha, qa⟩; obtain ⟨rfl, La, fa⟩ := FD.out.step ha; replace FD := Lib.hid fa; replace QD := Lib.hid qa; clear ha qa fa)
          go_wp2_with fail
          (have CA := ImpliesS hn6 FD.out.fr.own.rep QD.out (by omega) (f := f) (F := F) (g := x1) (G := exQ ms F) (by repeat (first | exact List.Mem.head _ | apply List.Mem.tail)) (by repeat (first | exact List.Mem.head _ | apply List.Mem.tail)) true (⟨fun _ a h => le_exQ ms F a h, fun _ => rfl⟩); (refine CA.mono ?_); clear CA; rintro e wa ⟨Ma, ha, qa⟩; obtain ⟨rfl, La, fa⟩ := FD.out.step ha; replace FD := Lib.hid fa; replace QD := Lib.hid qa; clear ha qa fa)
          by_cases himp : ∀ a, F a = true → G a = true
          · go_wp2_with fail
            (have CA := ImpliesS hn6 FD.out.fr.own.rep QD.out (by omega) (f := f) (F := F) (g := g) (G := G) (by repeat (first | exact List.Mem.head _ | apply List.Mem.tail)) (by repeat (first | exact List.Mem.head _ | apply List.Mem.tail)) true (⟨fun _ => himp, fun _ => rfl⟩); (refine CA.mono ?_); clear CA; rintro e wa ⟨Ma, ha, qa⟩; obtain ⟨rfl, La, fa⟩ := FD.out.step ha; replace FD := Lib.hid fa; replace QD := Lib.hid qa; clear ha qa fa)
            go_wp2_with fail
            (have CA := NotS hn6 FD.out.fr.own.rep QD.out (by omega) (f := g) (F := G) (by repeat (first | exact List.Mem.head _ | apply List.Mem.tail)); (refine CA.mono ?_); clear CA; rintro e wa ⟨e1, Ma, ha, qa, _⟩; obtain ⟨rfl, La, fa⟩ := FD.out.step ha; replace FD := Lib.hid fa; replace QD := Lib.hid qa; clear ha qa fa)
            go_wp2_with fail
            (have CA := AndS hn6 FD.out.fr.own.rep QD.out (by omega) (f := f) (F := F) (g := e1) (G := (fun a => !G a)) (by repeat (first | exact List.Mem.head _ | apply List.Mem.tail)) (by repeat (first | exact List.Mem.head _ | apply List.Mem.tail)); (refine CA.mono ?_); clear CA; rintro e wa ⟨zz, Ma, ha, qa, _⟩; have er : 0 = zz := qa.eq (f := 0) (F := fun _ => false) (g := zz) (G := fun a => F a && !G a) (by repeat (first | exact List.Mem.head _ | apply List.Mem.tail)) (List.Mem.head _) (fun a => by have := himp a; cases hF : F a <;> simp_all); obtain ⟨rfl, La, fa⟩ := FD.out.step ha; subst er; replace FD := Lib.hid fa; replace QD := Lib.hid qa.tail; clear ha qa fa)
            have KF := Lib.hid FD.out.fr.own.kp
            clear FD QD
            go_wp2_with fail
            go_ret
            exact ⟨by simp, KF.out⟩
          · go_wp2_with fail
            (have CA := ImpliesS hn6 FD.out.fr.own.rep QD.out (by omega) (f := f) (F := F) (g := g) (G := G) (by repeat (first | exact List.Mem.head _ | apply List.Mem.tail)) (by repeat (first | exact List.Mem.head _ | apply List.Mem.tail)) false (⟨fun h => (by cases h), fun h => (himp h).elim⟩); (refine CA.mono ?_); clear CA; rintro e wa ⟨Ma, ha, qa⟩; obtain ⟨rfl, La, fa⟩ := FD.out.step ha; replace FD := Lib.hid fa; replace QD := Lib.hid qa; clear ha qa fa)
            go_wp2_with fail
            (have CA := NotS hn6 FD.out.fr.own.rep QD.out (by omega) (f := g) (F := G) (by repeat (first | exact List.Mem.head _ | apply List.Mem.tail)); (refine CA.mono ?_); clear CA; rintro e wa ⟨e1, Ma, ha, qa, _⟩; obtain ⟨rfl, La, fa⟩ := FD.out.step ha; replace FD := Lib.hid fa; replace QD := Lib.hid qa; clear ha qa fa)
            go_wp2_with fail
            (have CA := AndS hn6 FD.out.fr.own.rep QD.out (by omega) (f := f) (F := F) (g := e1) (G := (fun a => !G a)) (by repeat (first | exact List.Mem.head _ | apply List.Mem.tail)) (by repeat (first | exact List.Mem.head _ | apply List.Mem.tail)); (refine CA.mono ?_); clear CA; rintro e wa ⟨zz, Ma, ha, qa, _⟩; have hz0 : (zz == 0) = false := (by have hz1 : zz ≠ 0 := (fun e => himp (fun a hFa => (by have h0 := qa.eq_conv (f := 0) (F := fun a => F a && !G a) (G := fun _ => false) (by rw [e]; exact List.Mem.head _) (by repeat (first | exact List.Mem.head _ | apply List.Mem.tail)) a; cases hG : G a <;> simp_all))); simpa using hz1); obtain ⟨rfl, La, fa⟩ := FD.out.step ha; replace FD := Lib.hid fa; replace QD := Lib.hid qa; clear ha qa fa)
            have KF := Lib.hid FD.out.fr.own.kp
            clear FD QD
            go_wp2_with fail
            go_ret
            exact ⟨by simp, KF.out⟩
    · go_region_held3 (fun y => True) (exact trivial) (first | (go_at_call 25; first | (have CA := ExistsS hn6 FD.out.fr.own.rep QD.out (by omega) (f := f) (F := F) (by repeat (first | exact List.Mem.head _ | apply List.Mem.tail)) (ms.drop d3) (by rw [List.length_drop]; omega) HDR.out (SDR.out _ _ _ a3 0 0 FD.out (by omega) (fun g hg hlt => by omega)); (with_reducible refine CA.mono ?_); clear CA; rintro e wa ⟨b1, Ma, ha, qa, _⟩; obtain ⟨rfl, La, fa⟩ := FD.out.step ha; replace FD := Lib.hid fa; replace QD := Lib.hid qa; clear ha qa fa) | (have CA := ExistsS hn6 FD.out.fr.own.rep QD.out (by omega) (f := f) (F := F) (by repeat (first | exact List.Mem.head _ | apply List.Mem.tail)) (ms.drop d3) (by rw [List.length_drop]; omega) HDR.out (SDR.out _ _ _ (Option.map (fun x => x.add d3) a3) (m - d3) (d3 - d3) FD.out rfl (fun g hg hlt => by rw [hg]; exact HLP.out g)); (with_reducible refine CA.mono ?_); clear CA; rintro e wa ⟨b1, Ma, ha, qa, _⟩; obtain ⟨rfl, La, fa⟩ := FD.out.step ha; replace FD := Lib.hid fa; replace QD := Lib.hid qa; clear ha qa fa) | (have CA := ExistsS hn6 FD.out.fr.own.rep QD.out (by omega) (f := b1) (F := (exQ (ms.drop d3) F)) (by repeat (first | exact List.Mem.head _ | apply List.Mem.tail)) (ms.take d3) (by rw [List.length_take]; omega) HTK.out (STK.out _ _ _ a3 0 FD.out (fun g hg hlt => hg)); (with_reducible refine CA.mono ?_); clear CA; rintro e wa ⟨zz, Ma, ha, qa, _⟩; have er : x1 = zz := qa.eq (f := x1) (F := exQ ms F) (g := zz) (G := exQ (ms.take d3) (exQ (ms.drop d3) F)) (by repeat (first | exact List.Mem.head _ | apply List.Mem.tail)) (List.Mem.head _) (fun a => by rw [exQ_parts]); obtain ⟨rfl, La, fa⟩ := FD.out.step ha; subst er; replace FD := Lib.hid fa; replace QD := Lib.hid qa.tail; clear ha qa fa) | (have CA := ExistsS hn6 FD.out.fr.own.rep QD.out (by omega) (f := b1) (F := (exQ (ms.drop d3) F)) (by repeat (first | exact List.Mem.head _ | apply List.Mem.tail)) (ms.take d3) (by rw [List.length_take]; omega) HTK.out (STK.out _ _ _ a3 d3 FD.out (fun g hg hlt => hg)); (with_reducible refine CA.mono ?_); clear CA; rintro e wa ⟨zz, Ma, ha, qa, _⟩; have er : x1 = zz := qa.eq (f := x1) (F := exQ ms F) (g := zz) (G := exQ (ms.take d3) (exQ (ms.drop d3) F)) (by repeat (first | exact List.Mem.head _ | apply List.Mem.tail)) (List.Mem.head _) (fun a => by rw [exQ_parts]); obtain ⟨rfl, La, fa⟩ := FD.out.step ha; subst er; replace FD := Lib.hid fa; replace QD := Lib.hid qa.tail; clear ha qa fa) | (trace_state; fail)) | (go_at_call 26; first | (have CA := ForAllS hn6 FD.out.fr.own.rep QD.out (by omega) (f := f) (F := F) (by repeat (first | exact List.Mem.head _ | apply List.Mem.tail)) (ms.take d3) (by rw [List.length_take]; omega) HTK.out (STK.out _ _ _ a3 0 FD.out (fun g hg hlt => hg)) (ODR.out _ _ _ _ _ _ FD.out (by first | exact fun z hz => ⟨z, hz, rfl⟩ | exact HL2.out)); (with_reducible refine CA.mono ?_); clear CA; rintro e wa ⟨b3, Ma, ha, qa, _⟩; obtain ⟨rfl, La, fa⟩ := FD.out.step ha; replace FD := Lib.hid fa; replace QD := Lib.hid qa; clear ha qa fa) | (have CA := ForAllS hn6 FD.out.fr.own.rep QD.out (by omega) (f := f) (F := F) (by repeat (first | exact List.Mem.head _ | apply List.Mem.tail)) (ms.take d3) (by rw [List.length_take]; omega) HTK.out (STK.out _ _ _ a3 d3 FD.out (fun g hg hlt => hg)) (ODR.out _ _ _ _ _ _ FD.out (by first | exact fun z hz => ⟨z, hz, rfl⟩ | exact HL2.out)); (with_reducible refine CA.mono ?_); clear CA; rintro e wa ⟨b3, Ma, ha, qa, _⟩; obtain ⟨rfl, La, fa⟩ := FD.out.step ha; replace FD := Lib.hid fa; replace QD := Lib.hid qa; clear ha qa fa) | (have CA := ForAllS hn6 FD.out.fr.own.rep QD.out (by omega) (f := b3) (F := (alQ (ms.take d3) F)) (by repeat (first | exact List.Mem.head _ | apply List.Mem.tail)) (ms.drop d3) (by rw [List.length_drop]; omega) HDR.out (SDR.out _ _ _ a3 0 0 FD.out (by omega) (fun g hg hlt => by omega)) (ODR.out _ _ _ _ _ _ FD.out (by first | exact fun z hz => ⟨z, hz, rfl⟩ | exact HL2.out)); (with_reducible refine CA.mono ?_); clear CA; rintro e wa ⟨zz, Ma, ha, qa, _⟩; have er : y1 = zz := qa.eq (f := y1) (F := alQ ms F) (g := zz) (G := alQ (ms.drop d3) (alQ (ms.take d3) F)) (by repeat (first | exact List.Mem.head _ | apply List.Mem.tail)) (List.Mem.head _) (fun a => by rw [alQ_parts]); obtain ⟨rfl, La, fa⟩ := FD.out.step ha; subst er; replace FD := Lib.hid fa; replace QD := Lib.hid qa.tail; clear ha qa fa) | (have CA := ForAllS hn6 FD.out.fr.own.rep QD.out (by omega) (f := b3) (F := (alQ (ms.take d3) F)) (by repeat (first | exact List.Mem.head _ | apply List.Mem.tail)) (ms.drop d3) (by rw [List.length_drop]; omega) HDR.out (SDR.out _ _ _ (Option.map (fun x => x.add d3) a3) (m - d3) (d3 - d3) FD.out rfl (fun g hg hlt => by rw [hg]; exact HLP.out g)) (ODR.out _ _ _ _ _ _ FD.out (by first | exact fun z hz => ⟨z, hz, rfl⟩ | exact HL2.out)); (with_reducible refine CA.mono ?_); clear CA; rintro e wa ⟨zz, Ma, ha, qa, _⟩; have er : y1 = zz := qa.eq (f := y1) (F := alQ ms F) (g := zz) (G := alQ (ms.drop d3) (alQ (ms.take d3) F)) (by repeat (first | exact List.Mem.head _ | apply List.Mem.tail)) (List.Mem.head _) (fun a => by rw [alQ_parts]); obtain ⟨rfl, La, fa⟩ := FD.out.step ha; subst er; replace FD := Lib.hid fa; replace QD := Lib.hid qa.tail; clear ha qa fa)))
      go_wp2_with fail
      (have CA := OrS hn6 FD.out.fr.own.rep QD.out (by omega) (f := f) (F := F) (g := g) (G := G) (by repeat (first | exact List.Mem.head _ | apply List.Mem.tail)) (by repeat (first | exact List.Mem.head _ | apply List.Mem.tail)); (refine CA.mono ?_); clear CA; rintro e wa ⟨c1, Ma, ha, qa, _⟩; obtain ⟨rfl, La, fa⟩ := FD.out.step ha; replace FD := Lib.hid fa; replace QD := Lib.hid qa; clear ha qa fa)
      go_wp2_with fail
      (have CA := ExistsS hn6 FD.out.fr.own.rep QD.out (by omega) (f := c1) (F := (fun a => F a || G a)) (by repeat (first | exact List.Mem.head _ | apply List.Mem.tail)) ms hml hms (SN.out _ _ _ FD.out); (refine CA.mono ?_); clear CA; rintro e wa ⟨c2, Ma, ha, qa, _⟩; obtain ⟨rfl, La, fa⟩ := FD.out.step ha; replace FD := Lib.hid fa; replace QD := Lib.hid qa; clear ha qa fa)
      go_wp2_with fail
      (have CA := ExistsS hn6 FD.out.fr.own.rep QD.out (by omega) (f := g) (F := G) (by repeat (first | exact List.Mem.head _ | apply List.Mem.tail)) ms hml hms (SN.out _ _ _ FD.out); (refine CA.mono ?_); clear CA; rintro e wa ⟨c3, Ma, ha, qa, _⟩; obtain ⟨rfl, La, fa⟩ := FD.out.step ha; replace FD := Lib.hid fa; replace QD := Lib.hid qa; clear ha qa fa)
      go_wp2_with fail
      (have CA := OrS hn6 FD.out.fr.own.rep QD.out (by omega) (f := x1) (F := (exQ ms F)) (g := c3) (G := (exQ ms G)) (by repeat (first | exact List.Mem.head _ | apply List.Mem.tail)) (by repeat (first | exact List.Mem.head _ | apply List.Mem.tail)); (refine CA.mono ?_); clear CA; rintro e wa ⟨zz, Ma, ha, qa, _⟩; have er : c2 = zz := qa.eq (f := c2) (F := exQ ms (fun a => F a || G a)) (g := zz) (G := fun a => exQ ms F a || exQ ms G a) (by repeat (first | exact List.Mem.head _ | apply List.Mem.tail)) (List.Mem.head _) (fun a => exQ_or ms F G a); obtain ⟨rfl, La, fa⟩ := FD.out.step ha; subst er; replace FD := Lib.hid fa; replace QD := Lib.hid qa.tail; clear ha qa fa)
      go_wp2_with fail
      (have CA := AndS hn6 FD.out.fr.own.rep QD.out (by omega) (f := f) (F := F) (g := g) (G := G) (by repeat (first | exact List.Mem.head _ | apply List.Mem.tail)) (by repeat (first | exact List.Mem.head _ | apply List.Mem.tail)); (refine CA.mono ?_); clear CA; rintro e wa ⟨c5, Ma, ha, qa, _⟩; obtain ⟨rfl, La, fa⟩ := FD.out.step ha; replace FD := Lib.hid fa; replace QD := Lib.hid qa; clear ha qa fa)
      go_wp2_with fail
      (have CA := ForAllS hn6 FD.out.fr.own.rep QD.out (by omega) (f := c5) (F := (fun a => F a && G a)) (by repeat (first | exact List.Mem.head _ | apply List.Mem.tail)) ms hml hms (SN.out _ _ _ FD.out) FD.out.offS; (refine CA.mono ?_); clear CA; rintro e wa ⟨c6, Ma, ha, qa, _⟩; obtain ⟨rfl, La, fa⟩ := FD.out.step ha; replace FD := Lib.hid fa; replace QD := Lib.hid qa; clear ha qa fa)
      go_wp2_with fail
      (have CA := ForAllS hn6 FD.out.fr.own.rep QD.out (by omega) (f := g) (F := G) (by repeat (first | exact List.Mem.head _ | apply List.Mem.tail)) ms hml hms (SN.out _ _ _ FD.out) FD.out.offS; (refine CA.mono ?_); clear CA; rintro e wa ⟨c7, Ma, ha, qa, _⟩; obtain ⟨rfl, La, fa⟩ := FD.out.step ha; replace FD := Lib.hid fa; replace QD := Lib.hid qa; clear ha qa fa)
      go_wp2_with fail
      (have CA := AndS hn6 FD.out.fr.own.rep QD.out (by omega) (f := y1) (F := (alQ ms F)) (g := c7) (G := (alQ ms G)) (by repeat (first | exact List.Mem.head _ | apply List.Mem.tail)) (by repeat (first | exact List.Mem.head _ | apply List.Mem.tail)); (refine CA.mono ?_); clear CA; rintro e wa ⟨zz, Ma, ha, qa, _⟩; have er : c6 = zz := qa.eq (f := c6) (F := alQ ms (fun a => F a && G a)) (g := zz) (G := fun a => alQ ms F a && alQ ms G a) (by repeat (first | exact List.Mem.head _ | apply List.Mem.tail)) (List.Mem.head _) (fun a => by rw [alQ_and]); obtain ⟨rfl, La, fa⟩ := FD.out.step ha; subst er; replace FD := Lib.hid fa; replace QD := Lib.hid qa.tail; clear ha qa fa)
      go_wp2_with fail
      (have CA := AndExS hn6 FD.out.fr.own.rep QD.out (by omega) (f := f) (F := F) (g := g) (G := G) (by repeat (first | exact List.Mem.head _ | apply List.Mem.tail)) (by repeat (first | exact List.Mem.head _ | apply List.Mem.tail)) ms hml hms (SN.out _ _ _ FD.out); (refine CA.mono ?_); clear CA; rintro e wa ⟨d1, Ma, ha, qa, _⟩; obtain ⟨rfl, La, fa⟩ := FD.out.step ha; replace FD := Lib.hid fa; replace QD := Lib.hid qa; clear ha qa fa)
      go_wp2_with fail
      (have CA := AndS hn6 FD.out.fr.own.rep QD.out (by omega) (f := f) (F := F) (g := g) (G := G) (by repeat (first | exact List.Mem.head _ | apply List.Mem.tail)) (by repeat (first | exact List.Mem.head _ | apply List.Mem.tail)); (refine CA.mono ?_); clear CA; rintro e wa ⟨zz, Ma, ha, qa, _⟩; have er : c5 = zz := qa.eq (f := c5) (F := (fun a => F a && G a)) (g := zz) (G := (fun a => F a && G a)) (by repeat (first | exact List.Mem.head _ | apply List.Mem.tail)) (List.Mem.head _) (fun _ => rfl); obtain ⟨rfl, La, fa⟩ := FD.out.step ha; subst er; replace FD := Lib.hid fa; replace QD := Lib.hid qa.tail; clear ha qa fa)
      go_wp2_with fail
      (have CA := ExistsS hn6 FD.out.fr.own.rep QD.out (by omega) (f := c5) (F := (fun a => F a && G a)) (by repeat (first | exact List.Mem.head _ | apply List.Mem.tail)) ms hml hms (SN.out _ _ _ FD.out); (refine CA.mono ?_); clear CA; rintro e wa ⟨zz, Ma, ha, qa, _⟩; have er : d1 = zz := qa.eq (f := d1) (F := exQ ms (fun a => F a && G a)) (g := zz) (G := exQ ms (fun a => F a && G a)) (by repeat (first | exact List.Mem.head _ | apply List.Mem.tail)) (List.Mem.head _) (fun _ => rfl); obtain ⟨rfl, La, fa⟩ := FD.out.step ha; subst er; replace FD := Lib.hid fa; replace QD := Lib.hid qa.tail; clear ha qa fa)
      replace QD := Lib.hid QD.out.consts
      go_wp2_with fail
      (have CA := AndExS hn6 FD.out.fr.own.rep QD.out (by omega) (f := f) (F := F) (g := 1) (G := (fun _ => true)) (by repeat (first | exact List.Mem.head _ | apply List.Mem.tail)) (by repeat (first | exact List.Mem.head _ | apply List.Mem.tail)) ms hml hms (SN.out _ _ _ FD.out); (refine CA.mono ?_); clear CA; rintro e wa ⟨zz, Ma, ha, qa, _⟩; have er : x1 = zz := qa.eq (f := x1) (F := exQ ms F) (g := zz) (G := exQ ms (fun a => F a && true)) (by repeat (first | exact List.Mem.head _ | apply List.Mem.tail)) (List.Mem.head _) (fun a => by simp only [Bool.and_true]); obtain ⟨rfl, La, fa⟩ := FD.out.step ha; subst er; replace FD := Lib.hid fa; replace QD := Lib.hid qa.tail; clear ha qa fa)
      have SG := Lib.hid (sup_gone (l := ms) (f := x1) (F := F) QD.out (by repeat (first | exact List.Mem.head _ | apply List.Mem.tail)))
      have HSL := Lib.hid (show (Mgr.supM Ma x1).length ≤ 6 from Nat.le_trans (Mgr.supM_len _ _) (by rw [QD.out.nn]; exact hn6))
      have SP := Lib.hid (Support_ok x1 FD.out.fr.own.rep (by rw [QD.out.nn]; omega))
      go_wp2_with fail
      refine SP.out.mono ?_
      rintro e ws ⟨sv, rfl, srow, ks⟩
      replace FD := Lib.hid (FD.out.no ks)
      obtain ⟨ss, hss⟩ : ∃ ss, Mgr.supM Ma x1 = ss := ⟨_, rfl⟩
      rw [hss] at srow SG HSL
      obtain ⟨sa, sc, rfl⟩ := rowForm srow
      have SROW := Lib.hid srow
      have HSS := Lib.hid hss
      have hsl6 : (ss.length : Int) ≤ 6 := by have := HSL.out; omega
      have O0 : Hid (SuR ws ss.length ss.length (.int .i64 0) ws) := Lib.hid ⟨0, by omega, rfl, Kp.refl _ _⟩
      clear hss srow ks SP
      go_wp2_with fail
      go_loopg [27, 28] ss.length (fun gk s27 s28 x => SuR ws ss.length gk s27 x)
      case atStart => exact O0.out
      case round =>
        clear O0
        obtain ⟨k, hk, rfl, kp⟩ := hrel
        obtain ⟨wo, hwo⟩ : ∃ wo, wo = wr := ⟨_, rfl⟩
        subst hwo
        have HK := Lib.hid hk
        have KP := Lib.hid kp
        by_cases hlt : k < ss.length
        · have hlti : (k : Int) < ss.length := by omega
          have I0 : Hid (SuR wo m m (.int .i64 0) wo) := Lib.hid ⟨0, by omega, rfl, Kp.refl _ _⟩
          obtain ⟨g1, o1, c1, hv1, _, hcs⟩ := ((SrcAt.of_row SROW.out).no kp).cellAt (by omega)
          cases hv1
          have ds := hcs k (natV (ss.getD k 0)) (by simp [hlt])
          have DS := Lib.hid ds
          have NE : Hid (ss.getD k 0 ∉ ms) := Lib.hid (SG.out _ (by rw [List.getD_eq_getElem?_getD, List.getElem?_eq_getElem hlt]; exact List.getElem_mem hlt))
          have SRC := Lib.hid (FD.out.src.no kp)
          clear hk kp hcs ds
          generalize ss.getD k 0 = sk at *
          go_wp2_with fail
          go_loopg [28] m (fun gk s28 x => SuR wo m gk s28 x)
          case atStart => exact I0.out
          case round =>
            clear I0
            obtain ⟨j, hj, rfl, kp2⟩ := hrel
            have HJ := Lib.hid hj
            have KP2 := Lib.hid kp2
            by_cases hlt2 : j < m
            · have hlti2 : (j : Int) < m := by omega
              have hjm : j < ms.length := by have := HM.out; omega
              obtain ⟨g2, o2, c2, hv2, _, hcl⟩ := (SRC.out.no kp2).cellAt (by omega)
              cases hv2
              have dl := hcl j (natV (ms.getD j 0)) (by simp [hjm])
              have hne : ((sk : Int) == ((ms.getD j 0 : Nat) : Int)) = false := by
                have hm : ms.getD j 0 ∈ ms := by rw [List.getD_eq_getElem?_getD, List.getElem?_eq_getElem hjm]; exact List.getElem_mem hjm
                have hx : sk ≠ ms.getD j 0 := fun e => NE.out (by rw [e]; exact hm)
                have hx2 : ¬ (sk : Int) = ((ms.getD j 0 : Nat) : Int) := by omega
                rw [beq_eq_false_iff_ne]
                exact hx2
              have ds2 := (KP2.out.cell (a := ⟨g1, o1 + k, none⟩) (World.block_lt_of_cell? _ _ DS.out) (fun z => z)).trans DS.out
              have JN : Hid (∀ y, Kp No wr y → SuR wo m (m - (j + 1)) (.int .i64 ((j + 1 : Nat) : Int)) y) := Lib.hid (fun y ky => ⟨j + 1, by have := HJ.out; omega, rfl, KP2.out.trans_no ky⟩)
              unfold natV at dl ds2
              clear hj kp2 hcl
              generalize ms.getD j 0 = lj at *
              go_wp2_with fail
              go_quiet (fail)
              go_wp2_with fail
              go_roundg (m - (j + 1))
              case measure => have := HJ.out; omega
              case rel => exact JN.out _ (Kp.drewN _)
            · have hge2 : ¬ (j : Int) < m := by omega
              have ON : Hid (SuR ws ss.length (ss.length - (k + 1)) (.int .i64 ((k + 1 : Nat) : Int)) wr) := Lib.hid ⟨k + 1, by have := HK.out; omega, rfl, KP.out.trans_no KP2.out⟩
              clear hj kp2
              go_wp2_with fail
              go_roundg (ss.length - (k + 1))
              case measure => have := HK.out; omega
              case rel => exact ON.out
        · have hge : ¬ (k : Int) < ss.length := by omega
          replace FD := Lib.hid (FD.out.no kp)
          clear hk kp
          have U0 := Lib.hid (QD.out.rd (f := f) (F := F) (by repeat (first | exact List.Mem.head _ | apply List.Mem.tail))).upto
          go_wp2_with fail
          (have CA := ImpliesS hn6 FD.out.fr.own.rep QD.out (by omega) (f := y1) (F := alQ ms F) (g := f) (G := F) (by repeat (first | exact List.Mem.head _ | apply List.Mem.tail)) (by repeat (first | exact List.Mem.head _ | apply List.Mem.tail)) true (⟨fun _ a h => alQ_le ms F a h, fun _ => rfl⟩); (refine CA.mono ?_); clear CA; rintro e wa ⟨Ma, ha, qa⟩; obtain ⟨rfl, La, fa⟩ := FD.out.step ha; replace FD := Lib.hid fa; replace QD := Lib.hid qa; clear ha qa fa)
          go_wp2_with fail
          (have CA := ImpliesS hn6 FD.out.fr.own.rep QD.out (by omega) (f := f) (F := F) (g := x1) (G := exQ ms F) (by repeat (first | exact List.Mem.head _ | apply List.Mem.tail)) (by repeat (first | exact List.Mem.head _ | apply List.Mem.tail)) true (⟨fun _ a h => le_exQ ms F a h, fun _ => rfl⟩); (refine CA.mono ?_); clear CA; rintro e wa ⟨Ma, ha, qa⟩; obtain ⟨rfl, La, fa⟩ := FD.out.step ha; replace FD := Lib.hid fa; replace QD := Lib.hid qa; clear ha qa fa)
          by_cases himp : ∀ a, F a = true → G a = true
          · go_wp2_with fail
            (have CA := ImpliesS hn6 FD.out.fr.own.rep QD.out (by omega) (f := f) (F := F) (g := g) (G := G) (by repeat (first | exact List.Mem.head _ | apply List.Mem.tail)) (by repeat (first | exact List.Mem.head _ | apply List.Mem.tail)) true (⟨fun _ => himp, fun _ => rfl⟩); (refine CA.mono ?_); clear CA; rintro e wa ⟨Ma, ha, qa⟩; obtain ⟨rfl, La, fa⟩ := FD.out.step ha; replace FD := Lib.hid fa; replace QD := Lib.hid qa; clear ha qa fa)
            go_wp2_with fail
            (have CA := NotS hn6 FD.out.fr.own.rep QD.out (by omega) (f := g) (F := G) (by repeat (first | exact List.Mem.head _ | apply List.Mem.tail)); (refine CA.mono ?_); clear CA; rintro e wa ⟨e1, Ma, ha, qa, _⟩; obtain ⟨rfl, La, fa⟩ := FD.out.step ha; replace FD := Lib.hid fa; replace QD := Lib.hid qa; clear ha qa fa)
            go_wp2_with fail
            (have CA := AndS hn6 FD.out.fr.own.rep QD.out (by omega) (f := f) (F := F) (g := e1) (G := (fun a => !G a)) (by repeat (first | exact List.Mem.head _ | apply List.Mem.tail)) (by repeat (first | exact List.Mem.head _ | apply List.Mem.tail)); (refine CA.mono ?_); clear CA; rintro e wa ⟨zz, Ma, ha, qa, _⟩; have er : 0 = zz := qa.eq (f := 0) (F := fun _ => false) (g := zz) (G := fun a => F a && !G a) (by repeat (first | exact List.Mem.head _ | apply List.Mem.tail)) (List.Mem.head _) (fun a => by have := himp a; cases hF : F a <;> simp_all); obtain ⟨rfl, La, fa⟩ := FD.out.step ha; subst er; replace FD := Lib.hid fa; replace QD := Lib.hid qa.tail; clear ha qa fa)
            have KF := Lib.hid FD.out.fr.own.kp
            clear FD QD
            go_wp2_with fail
            go_ret
            exact ⟨by simp, KF.out⟩
          · go_wp2_with fail
            (have CA := ImpliesS hn6 FD.out.fr.own.rep QD.out (by omega) (f := f) (F := F) (g := g) (G := G) (by repeat (first | exact List.Mem.head _ | apply List.Mem.tail)) (by repeat (first | exact List.Mem.head _ | apply List.Mem.tail)) false (⟨fun h => (by cases h), fun h => (himp h).elim⟩); (refine CA.mono ?_); clear CA; rintro e wa ⟨Ma, ha, qa⟩; obtain ⟨rfl, La, fa⟩ := FD.out.step ha; replace FD := Lib.hid fa; replace QD := Lib.hid qa; clear ha qa fa)
            go_wp2_with fail
            (have CA := NotS hn6 FD.out.fr.own.rep QD.out (by omega) (f := g) (F := G) (by repeat (first | exact List.Mem.head _ | apply List.Mem.tail)); (refine CA.mono ?_); clear CA; rintro e wa ⟨e1, Ma, ha, qa, _⟩; obtain ⟨rfl, La, fa⟩ := FD.out.step ha; replace FD := Lib.hid fa; replace QD := Lib.hid qa; clear ha qa fa)
            go_wp2_with fail
            (have CA := AndS hn6 FD.out.fr.own.rep QD.out (by omega) (f := f) (F := F) (g := e1) (G := (fun a => !G a)) (by repeat (first | exact List.Mem.head _ | apply List.Mem.tail)) (by repeat (first | exact List.Mem.head _ | apply List.Mem.tail)); (refine CA.mono ?_); clear CA; rintro e wa ⟨zz, Ma, ha, qa, _⟩; have hz0 : (zz == 0) = false := (by have hz1 : zz ≠ 0 := (fun e => himp (fun a hFa => (by have h0 := qa.eq_conv (f := 0) (F := fun a => F a && !G a) (G := fun _ => false) (by rw [e]; exact List.Mem.head _) (by repeat (first | exact List.Mem.head _ | apply List.Mem.tail)) a; cases hG : G a <;> simp_all))); simpa using hz1); obtain ⟨rfl, La, fa⟩ := FD.out.step ha; replace FD := Lib.hid fa; replace QD := Lib.hid qa; clear ha qa fa)
            have KF := Lib.hid FD.out.fr.own.kp
            clear FD QD
            go_wp2_with fail
            go_ret
            exact ⟨by simp, KF.out⟩
    · go_region_held3 (fun y => True) (exact trivial) (first | (go_at_call 25; first | (have CA := ExistsS hn6 FD.out.fr.own.rep QD.out (by omega) (f := f) (F := F) (by repeat (first | exact List.Mem.head _ | apply List.Mem.tail)) (ms.drop kc) (by rw [List.length_drop]; omega) HDR.out (SDR.out _ _ _ a3 0 0 FD.out (by omega) (fun g hg hlt => by omega)); (with_reducible refine CA.mono ?_); clear CA; rintro e wa ⟨b1, Ma, ha, qa, _⟩; obtain ⟨rfl, La, fa⟩ := FD.out.step ha; replace FD := Lib.hid fa; replace QD := Lib.hid qa; clear ha qa fa) | (have CA := ExistsS hn6 FD.out.fr.own.rep QD.out (by omega) (f := f) (F := F) (by repeat (first | exact List.Mem.head _ | apply List.Mem.tail)) (ms.drop kc) (by rw [List.length_drop]; omega) HDR.out (SDR.out _ _ _ (Option.map (fun x => x.add kc) a3) (m - kc) (d3 - kc) FD.out rfl (fun g hg hlt => by rw [hg]; exact HLP.out g)); (with_reducible refine CA.mono ?_); clear CA; rintro e wa ⟨b1, Ma, ha, qa, _⟩; obtain ⟨rfl, La, fa⟩ := FD.out.step ha; replace FD := Lib.hid fa; replace QD := Lib.hid qa; clear ha qa fa) | (have CA := ExistsS hn6 FD.out.fr.own.rep QD.out (by omega) (f := b1) (F := (exQ (ms.drop kc) F)) (by repeat (first | exact List.Mem.head _ | apply List.Mem.tail)) (ms.take kc) (by rw [List.length_take]; omega) HTK.out (STK.out _ _ _ a3 0 FD.out (fun g hg hlt => hg)); (with_reducible refine CA.mono ?_); clear CA; rintro e wa ⟨zz, Ma, ha, qa, _⟩; have er : x1 = zz := qa.eq (f := x1) (F := exQ ms F) (g := zz) (G := exQ (ms.take kc) (exQ (ms.drop kc) F)) (by repeat (first | exact List.Mem.head _ | apply List.Mem.tail)) (List.Mem.head _) (fun a => by rw [exQ_parts]); obtain ⟨rfl, La, fa⟩ := FD.out.step ha; subst er; replace FD := Lib.hid fa; replace QD := Lib.hid qa.tail; clear ha qa fa) | (have CA := ExistsS hn6 FD.out.fr.own.rep QD.out (by omega) (f := b1) (F := (exQ (ms.drop kc) F)) (by repeat (first | exact List.Mem.head _ | apply List.Mem.tail)) (ms.take kc) (by rw [List.length_take]; omega) HTK.out (STK.out _ _ _ a3 d3 FD.out (fun g hg hlt => hg)); (with_reducible refine CA.mono ?_); clear CA; rintro e wa ⟨zz, Ma, ha, qa, _⟩; have er : x1 = zz := qa.eq (f := x1) (F := exQ ms F) (g := zz) (G := exQ (ms.take kc) (exQ (ms.drop kc) F)) (by repeat (first | exact List.Mem.head _ | apply List.Mem.tail)) (List.Mem.head _) (fun a => by rw [exQ_parts]); obtain ⟨rfl, La, fa⟩ := FD.out.step ha; subst er; replace FD := Lib.hid fa; replace QD := Lib.hid qa.tail; clear ha qa fa) | (trace_state; fail)) | (go_at_call 26; first | (have CA := ForAllS hn6 FD.out.fr.own.rep QD.out (by omega) (f := f) (F := F) (by repeat (first | exact List.Mem.head _ | apply List.Mem.tail)) (ms.take kc) (by rw [List.length_take]; omega) HTK.out (STK.out _ _ _ a3 0 FD.out (fun g hg hlt => hg)) (ODR.out _ _ _ _ _ _ FD.out (by first | exact fun z hz => ⟨z, hz, rfl⟩ | exact HL2.out)); (with_reducible refine CA.mono ?_); clear CA; rintro e wa ⟨b3, Ma, ha, qa, _⟩; obtain ⟨rfl, La, fa⟩ := FD.out.step ha; replace FD := Lib.hid fa; replace QD := Lib.hid qa; clear ha qa fa) | (have CA := ForAllS hn6 FD.out.fr.own.rep QD.out (by omega) (f := f) (F := F) (by repeat (first | exact List.Mem.head _ | apply List.Mem.tail)) (ms.take kc) (by rw [List.length_take]; omega) HTK.out (STK.out _ _ _ a3 d3 FD.out (fun g hg hlt => hg)) (ODR.out _ _ _ _ _ _ FD.out (by first | exact fun z hz => ⟨z, hz, rfl⟩ | exact HL2.out)); (with_reducible refine CA.mono ?_); clear CA; rintro e wa ⟨b3, Ma, ha, qa, _⟩; obtain ⟨rfl, La, fa⟩ := FD.out.step ha; replace FD := Lib.hid fa; replace QD := Lib.hid qa; clear ha qa fa) | (have CA := ForAllS hn6 FD.out.fr.own.rep QD.out (by omega) (f := b3) (F := (alQ (ms.take kc) F)) (by repeat (first | exact List.Mem.head _ | apply List.Mem.tail)) (ms.drop kc) (by rw [List.length_drop]; omega) HDR.out (SDR.out _ _ _ a3 0 0 FD.out (by omega) (fun g hg hlt => by omega)) (ODR.out _ _ _ _ _ _ FD.out (by first | exact fun z hz => ⟨z, hz, rfl⟩ | exact HL2.out)); (with_reducible refine CA.mono ?_); clear CA; rintro e wa ⟨zz, Ma, ha, qa, _⟩; have er : y1 = zz := qa.eq (f := y1) (F := alQ ms F) (g := zz) (G := alQ (ms.drop kc) (alQ (ms.take kc) F)) (by repeat (first | exact List.Mem.head _ | apply List.Mem.tail)) (List.Mem.head _) (fun a => by rw [alQ_parts]); obtain ⟨rfl, La, fa⟩ := FD.out.step ha; subst er; replace FD := Lib.hid fa; replace QD := Lib.hid qa.tail; clear ha qa fa) | (have CA := ForAllS hn6 FD.out.fr.own.rep QD.out (by omega) (f := b3) (F := (alQ (ms.take kc) F)) (by repeat (first | exact List.Mem.head _ | apply List.Mem.tail)) (ms.drop kc) (by rw [List.length_drop]; omega) HDR.out (SDR.out _ _ _ (Option.map (fun x => x.add kc) a3) (m - kc) (d3 - kc) FD.out rfl (fun g hg hlt => by rw [hg]; exact HLP.out g)) (ODR.out _ _ _ _ _ _ FD.out (by first | exact fun z hz => ⟨z, hz, rfl⟩ | exact HL2.out)); (with_reducible refine CA.mono ?_); clear CA; rintro e wa ⟨zz, Ma, ha, qa, _⟩; have er : y1 = zz := qa.eq (f := y1) (F := alQ ms F) (g := zz) (G := alQ (ms.drop kc) (alQ (ms.take kc) F)) (by repeat (first | exact List.Mem.head _ | apply List.Mem.tail)) (List.Mem.head _) (fun a => by rw [alQ_parts]); obtain ⟨rfl, La, fa⟩ := FD.out.step ha; subst er; replace FD := Lib.hid fa; replace QD := Lib.hid qa.tail; clear ha qa fa)))
      go_wp2_with fail
      (have CA := OrS hn6 FD.out.fr.own.rep QD.out (by omega) (f := f) (F := F) (g := g) (G := G) (by repeat (first | exact List.Mem.head _ | apply List.Mem.tail)) (by repeat (first | exact List.Mem.head _ | apply List.Mem.tail)); (refine CA.mono ?_); clear CA; rintro e wa ⟨c1, Ma, ha, qa, _⟩; obtain ⟨rfl, La, fa⟩ := FD.out.step ha; replace FD := Lib.hid fa; replace QD := Lib.hid qa; clear ha qa fa)
      go_wp2_with fail
      (have CA := ExistsS hn6 FD.out.fr.own.rep QD.out (by omega) (f := c1) (F := (fun a => F a || G a)) (by repeat (first | exact List.Mem.head _ | apply List.Mem.tail)) ms hml hms (SN.out _ _ _ FD.out); (refine CA.mono ?_); clear CA; rintro e wa ⟨c2, Ma, ha, qa, _⟩; obtain ⟨rfl, La, fa⟩ := FD.out.step ha; replace FD := Lib.hid fa; replace QD := Lib.hid qa; clear ha qa fa)
      go_wp2_with fail
      (have CA := ExistsS hn6 FD.out.fr.own.rep QD.out (by omega) (f := g) (F := G) (by repeat (first | exact List.Mem.head _ | apply List.Mem.tail)) ms hml hms (SN.out _ _ _ FD.out); (refine CA.mono ?_); clear CA; rintro e wa ⟨c3, Ma, ha, qa, _⟩; obtain ⟨rfl, La, fa⟩ := FD.out.step ha; replace FD := Lib.hid fa; replace QD := Lib.hid qa; clear ha qa fa)
      go_wp2_with fail
      (have CA := OrS hn6 FD.out.fr.own.rep QD.out (by omega) (f := x1) (F := (exQ ms F)) (g := c3) (G := (exQ ms G)) (by repeat (first | exact List.Mem.head _ | apply List.Mem.tail)) (by repeat (first | exact List.Mem.head _ | apply List.Mem.tail)); (refine CA.mono ?_); clear CA; rintro e wa ⟨zz, Ma, ha, qa, _⟩; have er : c2 = zz := qa.eq (f := c2) (F := exQ ms (fun a => F a || G a)) (g := zz) (G := fun a => exQ ms F a || exQ ms G a) (by repeat (first | exact List.Mem.head _ | apply List.Mem.tail)) (List.Mem.head _) (fun a => exQ_or ms F G a); obtain ⟨rfl, La, fa⟩ := FD.out.step ha; subst er; replace FD := Lib.hid fa; replace QD := Lib.hid qa.tail; clear ha qa fa)
      go_wp2_with fail
      (have CA := AndS hn6 FD.out.fr.own.rep QD.out (by omega) (f := f) (F := F) (g := g) (G := G) (by repeat (first | exact List.Mem.head _ | apply List.Mem.tail)) (by repeat (first | exact List.Mem.head _ | apply List.Mem.tail)); (refine CA.mono ?_); clear CA; rintro e wa ⟨c5, Ma, ha, qa, _⟩; obtain ⟨rfl, La, fa⟩ := FD.out.step ha; replace FD := Lib.hid fa; replace QD := Lib.hid qa; clear ha qa fa)
      go_wp2_with fail
      (have CA := ForAllS hn6 FD.out.fr.own.rep QD.out (by omega) (f := c5) (F := (fun a => F a && G a)) (by repeat (first | exact List.Mem.head _ | apply List.Mem.tail)) ms hml hms (SN.out _ _ _ FD.out) FD.out.offS; (refine CA.mono ?_); clear CA; rintro e wa ⟨c6, Ma, ha, qa, _⟩; obtain ⟨rfl, La, fa⟩ := FD.out.step ha; replace FD := Lib.hid fa; replace QD := Lib.hid qa; clear ha qa fa)
      go_wp2_with fail
      (have CA := ForAllS hn6 FD.out.fr.own.rep QD.out (by omega) (f := g) (F := G) (by repeat (first | exact List.Mem.head _ | apply List.Mem.tail)) ms hml hms (SN.out _ _ _ FD.out) FD.out.offS; (refine CA.mono ?_); clear CA; rintro e wa ⟨c7, Ma, ha, qa, _⟩; obtain ⟨rfl, La, fa⟩ := FD.out.step ha; replace FD := Lib.hid fa; replace QD := Lib.hid qa; clear ha qa fa)
      go_wp2_with fail
      (have CA := AndS hn6 FD.out.fr.own.rep QD.out (by omega) (f := y1) (F := (alQ ms F)) (g := c7) (G := (alQ ms G)) (by repeat (first | exact List.Mem.head _ | apply List.Mem.tail)) (by repeat (first | exact List.Mem.head _ | apply List.Mem.tail)); (refine CA.mono ?_); clear CA; rintro e wa ⟨zz, Ma, ha, qa, _⟩; have er : c6 = zz := qa.eq (f := c6) (F := alQ ms (fun a => F a && G a)) (g := zz) (G := fun a => alQ ms F a && alQ ms G a) (by repeat (first | exact List.Mem.head _ | apply List.Mem.tail)) (List.Mem.head _) (fun a => by rw [alQ_and]); obtain ⟨rfl, La, fa⟩ := FD.out.step ha; subst er; replace FD := Lib.hid fa; replace QD := Lib.hid qa.tail; clear ha qa fa)
      go_wp2_with fail
      (have CA := AndExS hn6 FD.out.fr.own.rep QD.out (by omega) (f := f) (F := F) (g := g) (G := G) (by repeat (first | exact List.Mem.head _ | apply List.Mem.tail)) (by repeat (first | exact List.Mem.head _ | apply List.Mem.tail)) ms hml hms (SN.out _ _ _ FD.out); (refine CA.mono ?_); clear CA; rintro e wa ⟨d1, Ma, ha, qa, _⟩; obtain ⟨rfl, La, fa⟩ := FD.out.step ha; replace FD := Lib.hid fa; replace QD := Lib.hid qa; clear ha qa fa)
      go_wp2_with fail
      (have CA := AndS hn6 FD.out.fr.own.rep QD.out (by omega) (f := f) (F := F) (g := g) (G := G) (by repeat (first | exact List.Mem.head _ | apply List.Mem.tail)) (by repeat (first | exact List.Mem.head _ | apply List.Mem.tail)); (refine CA.mono ?_); clear CA; rintro e wa ⟨zz, Ma, ha, qa, _⟩; have er : c5 = zz := qa.eq (f := c5) (F := (fun a => F a && G a)) (g := zz) (G := (fun a => F a && G a)) (by repeat (first | exact List.Mem.head _ | apply List.Mem.tail)) (List.Mem.head _) (fun _ => rfl); obtain ⟨rfl, La, fa⟩ := FD.out.step ha; subst er; replace FD := Lib.hid fa; replace QD := Lib.hid qa.tail; clear ha qa fa)
      go_wp2_with fail
      (have CA := ExistsS hn6 FD.out.fr.own.rep QD.out (by omega) (f := c5) (F := (fun a => F a && G a)) (by repeat (first | exact List.Mem.head _ | apply List.Mem.tail)) ms hml hms (SN.out _ _ _ FD.out); (refine CA.mono ?_); clear CA; rintro e wa ⟨zz, Ma, ha, qa, _⟩; have er : d1 = zz := qa.eq (f := d1) (F := exQ ms (fun a => F a && G a)) (g := zz) (G := exQ ms (fun a => F a && G a)) (by repeat (first | exact List.Mem.head _ | apply List.Mem.tail)) (List.Mem.head _) (fun _ => rfl); obtain ⟨rfl, La, fa⟩ := FD.out.step ha; subst er; replace FD := Lib.hid fa; replace QD := Lib.hid qa.tail; clear ha qa fa)
      replace QD := Lib.hid QD.out.consts
      go_wp2_with fail
      (have CA := AndExS hn6 FD.out.fr.own.rep QD.out (by omega) (f := f) (F := F) (g := 1) (G := (fun _ => true)) (by repeat (first | exact List.Mem.head _ | apply List.Mem.tail)) (by repeat (first | exact List.Mem.head _ | apply List.Mem.tail)) ms hml hms (SN.out _ _ _ FD.out); (refine CA.mono ?_); clear CA; rintro e wa ⟨zz, Ma, ha, qa, _⟩; have er : x1 = zz := qa.eq (f := x1) (F := exQ ms F) (g := zz) (G := exQ ms (fun a => F a && true)) (by repeat (first | exact List.Mem.head _ | apply List.Mem.tail)) (List.Mem.head _) (fun a => by simp only [Bool.and_true]); obtain ⟨rfl, La, fa⟩ := FD.out.step ha; subst er; replace FD := Lib.hid fa; replace QD := Lib.hid qa.tail; clear ha qa fa)
      have SG := Lib.hid (sup_gone (l := ms) (f := x1) (F := F) QD.out (by repeat (first | exact List.Mem.head _ | apply List.Mem.tail)))
      have HSL := Lib.hid (show (Mgr.supM Ma x1).length ≤ 6 from Nat.le_trans (Mgr.supM_len _ _) (by rw [QD.out.nn]; exact hn6))
      have SP := Lib.hid (Support_ok x1 FD.out.fr.own.rep (by rw [QD.out.nn]; omega))
      go_wp2_with fail
      refine SP.out.mono ?_
      rintro e ws ⟨sv, rfl, srow, ks⟩
      replace FD := Lib.hid (FD.out.no ks)
      obtain ⟨ss, hss⟩ : ∃ ss, Mgr.supM Ma x1 = ss := ⟨_, rfl⟩
      rw [hss] at srow SG HSL
      obtain ⟨sa, sc, rfl⟩ := rowForm srow
      have SROW := Lib.hid srow
      have HSS := Lib.hid hss
      have hsl6 : (ss.length : Int) ≤ 6 := by have := HSL.out; omega
      have O0 : Hid (SuR ws ss.length ss.length (.int .i64 0) ws) := Lib.hid ⟨0, by omega, rfl, Kp.refl _ _⟩
      clear hss srow ks SP
      go_wp2_with fail
      go_loopg [27, 28] ss.length (fun gk s27 s28 x => SuR ws ss.length gk s27 x)
      case atStart => exact O0.out
      case round =>
        clear O0
        obtain ⟨k, hk, rfl, kp⟩ := hrel
        obtain ⟨wo, hwo⟩ : ∃ wo, wo = wr := ⟨_, rfl⟩
        subst hwo
        have HK := Lib.hid hk
        have KP := Lib.hid kp
        by_cases hlt : k < ss.length
        · have hlti : (k : Int) < ss.length := by omega
          have I0 : Hid (SuR wo m m (.int .i64 0) wo) := Lib.hid ⟨0, by omega, rfl, Kp.refl _ _⟩
          obtain ⟨g1, o1, c1, hv1, _, hcs⟩ := ((SrcAt.of_row SROW.out).no kp).cellAt (by omega)
          cases hv1
          have ds := hcs k (natV (ss.getD k 0)) (by simp [hlt])
          have DS := Lib.hid ds
          have NE : Hid (ss.getD k 0 ∉ ms) := Lib.hid (SG.out _ (by rw [List.getD_eq_getElem?_getD, List.getElem?_eq_getElem hlt]; exact List.getElem_mem hlt))
          have SRC := Lib.hid (FD.out.src.no kp)
          clear hk kp hcs ds
          generalize ss.getD k 0 = sk at *
          go_wp2_with fail
          go_loopg [28] m (fun gk s28 x => SuR wo m gk s28 x)
          case atStart => exact I0.out
          case round =>
            clear I0
            obtain ⟨j, hj, rfl, kp2⟩ := hrel
            have HJ := Lib.hid hj
            have KP2 := Lib.hid kp2
            by_cases hlt2 : j < m
            · have hlti2 : (j : Int) < m := by omega
              have hjm : j < ms.length := by have := HM.out; omega
              obtain ⟨g2, o2, c2, hv2, _, hcl⟩ := (SRC.out.no kp2).cellAt (by omega)
              cases hv2
              have dl := hcl j (natV (ms.getD j 0)) (by simp [hjm])
              have hne : ((sk : Int) == ((ms.getD j 0 : Nat) : Int)) = false := by
                have hm : ms.getD j 0 ∈ ms := by rw [List.getD_eq_getElem?_getD, List.getElem?_eq_getElem hjm]; exact List.getElem_mem hjm
                have hx : sk ≠ ms.getD j 0 := fun e => NE.out (by rw [e]; exact hm)
                have hx2 : ¬ (sk : Int) = ((ms.getD j 0 : Nat) : Int) := by omega
                rw [beq_eq_false_iff_ne]
                exact hx2
              have ds2 := (KP2.out.cell (a := ⟨g1, o1 + k, none⟩) (World.block_lt_of_cell? _ _ DS.out) (fun z => z)).trans DS.out
              have JN : Hid (∀ y, Kp No wr y → SuR wo m (m - (j + 1)) (.int .i64 ((j + 1 : Nat) : Int)) y) := Lib.hid (fun y ky => ⟨j + 1, by have := HJ.out; omega, rfl, KP2.out.trans_no ky⟩)
              unfold natV at dl ds2
              clear hj kp2 hcl
              generalize ms.getD j 0 = lj at *
              go_wp2_with fail
              go_quiet (fail)
              go_wp2_with fail
              go_roundg (m - (j + 1))
              case measure => have := HJ.out; omega
              case rel => exact JN.out _ (Kp.drewN _)
            · have hge2 : ¬ (j : Int) < m := by omega
              have ON : Hid (SuR ws ss.length (ss.length - (k + 1)) (.int .i64 ((k + 1 : Nat) : Int)) wr) := Lib.hid ⟨k + 1, by have := HK.out; omega, rfl, KP.out.trans_no KP2.out⟩
              clear hj kp2
              go_wp2_with fail
              go_roundg (ss.length - (k + 1))
              case measure => have := HK.out; omega
              case rel => exact ON.out
        · have hge : ¬ (k : Int) < ss.length := by omega
          replace FD := Lib.hid (FD.out.no kp)
          clear hk kp
          have U0 := Lib.hid (QD.out.rd (f := f) (F := F) (by repeat (first | exact List.Mem.head _ | apply List.Mem.tail))).upto
          go_wp2_with fail
          (have CA := ImpliesS hn6 FD.out.fr.own.rep QD.out (by omega) (f := y1) (F := alQ ms F) (g := f) (G := F) (by repeat (first | exact List.Mem.head _ | apply List.Mem.tail)) (by repeat (first | exact List.Mem.head _ | apply List.Mem.tail)) true (⟨fun _ a h => alQ_le ms F a h, fun _ => rfl⟩); (refine CA.mono ?_); clear CA; rintro e wa ⟨Ma, ha, qa⟩; obtain ⟨rfl, La, fa⟩ := FD.out.step ha; replace FD := Lib.hid fa; replace QD := Lib.hid qa; clear ha qa fa)
          go_wp2_with fail
          (have CA := ImpliesS hn6 FD.out.fr.own.rep QD.out (by omega) (f := f) (F := F) (g := x1) (G := exQ ms F) (by repeat (first | exact List.Mem.head _ | apply List.Mem.tail)) (by repeat (first | exact List.Mem.head _ | apply List.Mem.tail)) true (⟨fun _ a h => le_exQ ms F a h, fun _ => rfl⟩); (refine CA.mono ?_); clear CA; rintro e wa ⟨Ma, ha, qa⟩; obtain ⟨rfl, La, fa⟩ := FD.out.step ha; replace FD := Lib.hid fa; replace QD := Lib.hid qa; clear ha qa fa)
          by_cases himp : ∀ a, F a = true → G a = true
          · go_wp2_with fail
            (have CA := ImpliesS hn6 FD.out.fr.own.rep QD.out (by omega) (f := f) (F := F) (g := g) (G := G) (by repeat (first | exact List.Mem.head _ | apply List.Mem.tail)) (by repeat (first | exact List.Mem.head _ | apply List.Mem.tail)) true (⟨fun _ => himp, fun _ => rfl⟩); (refine CA.mono ?_); clear CA; rintro e wa ⟨Ma, ha, qa⟩; obtain ⟨rfl, La, fa⟩ := FD.out.step ha; replace FD := Lib.hid fa; replace QD := Lib.hid qa; clear ha qa fa)
            go_wp2_with fail
            (have CA := NotS hn6 FD.out.fr.own.rep QD.out (by omega) (f := g) (F := G) (by repeat (first | exact List.Mem.head _ | apply List.Mem.tail)); (refine CA.mono ?_); clear CA; rintro e wa ⟨e1, Ma, ha, qa, _⟩; obtain ⟨rfl, La, fa⟩ := FD.out.step ha; replace FD := Lib.hid fa; replace QD := Lib.hid qa; clear ha qa fa)
            go_wp2_with fail
            (have CA := AndS hn6 FD.out.fr.own.rep QD.out (by omega) (f := f) (F := F) (g := e1) (G := (fun a => !G a)) (by repeat (first | exact List.Mem.head _ | apply List.Mem.tail)) (by repeat (first | exact List.Mem.head _ | apply List.Mem.tail)); (refine CA.mono ?_); clear CA; rintro e wa ⟨zz, Ma, ha, qa, _⟩; have er : 0 = zz := qa.eq (f := 0) (F := fun _ => false) (g := zz) (G := fun a => F a && !G a) (by repeat (first | exact List.Mem.head _ | apply List.Mem.tail)) (List.Mem.head _) (fun a => by have := himp a; cases hF : F a <;> simp_all); obtain ⟨rfl, La, fa⟩ := FD.out.step ha; subst er; replace FD := Lib.hid fa; replace QD := Lib.hid qa.tail; clear ha qa fa)
            have KF := Lib.hid FD.out.fr.own.kp
            clear FD QD
            go_wp2_with fail
            go_ret
            exact ⟨by simp, KF.out⟩
          · go_wp2_with fail
            (have CA := ImpliesS hn6 FD.out.fr.own.rep QD.out (by omega) (f := f) (F := F) (g := g) (G := G) (by repeat (first | exact List.Mem.head _ | apply List.Mem.tail)) (by repeat (first | exact List.Mem.head _ | apply List.Mem.tail)) false (⟨fun h => (by cases h), fun h => (himp h).elim⟩); (refine CA.mono ?_); clear CA; rintro e wa ⟨Ma, ha, qa⟩; obtain ⟨rfl, La, fa⟩ := FD.out.step ha; replace FD := Lib.hid fa; replace QD := Lib.hid qa; clear ha qa fa)
            go_wp2_with fail
            (have CA := NotS hn6 FD.out.fr.own.rep QD.out (by omega) (f := g) (F := G) (by repeat (first | exact List.Mem.head _ | apply List.Mem.tail)); (refine CA.mono ?_); clear CA; rintro e wa ⟨e1, Ma, ha, qa, _⟩; obtain ⟨rfl, La, fa⟩ := FD.out.step ha; replace FD := Lib.hid fa; replace QD := Lib.hid qa; clear ha qa fa)
            go_wp2_with fail
            (have CA := AndS hn6 FD.out.fr.own.rep QD.out (by omega) (f := f) (F := F) (g := e1) (G := (fun a => !G a)) (by repeat (first | exact List.Mem.head _ | apply List.Mem.tail)) (by repeat (first | exact List.Mem.head _ | apply List.Mem.tail)); (refine CA.mono ?_); clear CA; rintro e wa ⟨zz, Ma, ha, qa, _⟩; have hz0 : (zz == 0) = false := (by have hz1 : zz ≠ 0 := (fun e => himp (fun a hFa => (by have h0 := qa.eq_conv (f := 0) (F := fun a => F a && !G a) (G := fun _ => false) (by rw [e]; exact List.Mem.head _) (by repeat (first | exact List.Mem.head _ | apply List.Mem.tail)) a; cases hG : G a <;> simp_all))); simpa using hz1); obtain ⟨rfl, La, fa⟩ := FD.out.step ha; replace FD := Lib.hid fa; replace QD := Lib.hid qa; clear ha qa fa)
            have KF := Lib.hid FD.out.fr.own.kp
            clear FD QD
            go_wp2_with fail
            go_ret
            exact ⟨by simp, KF.out⟩
  · have hl : (30 : Int) < l.length := by omega
    go_enter Try.func5, Try.ntmps5
    go_wp2_with fail
    refine (qawake_ok w).mono ?_
    rintro e w0 ⟨rfl, k0⟩
    have K0 := Lib.hid k0
    clear k0
    go_wp2_with fail
    go_ret
    exact ⟨rfl, K0.out⟩

end Go.Proofs.Ytngbodmooddjbaa
