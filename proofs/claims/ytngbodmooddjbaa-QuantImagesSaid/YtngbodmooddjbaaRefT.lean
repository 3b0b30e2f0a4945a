/-
  Walks: 'Identity', 'Depends', 'Support', 'Top', 'Index' of the reference netverifyref26.
-/
import Derived.Test.YtngbodmooddjbaaFront
import Derived.Test.YtngbodmooddjbaaRLoad
import Derived.Test.YtngbodmooddjbaaSup
import Derived.Test.YtngbodmooddjbaaKeep
namespace Go.Proofs.Ytngbodmooddjbaa
open Go.RowKit

/-! ### Identity -/
def IdR (w : World) (n gk : Nat) (s3 s4 : Value) (x : World) : Prop :=
  ∃ k v, k + gk = n ∧ s4 = .int .i64 (k : Int) ∧ v = s3 ∧ x.ownsRow w.heap.size 3 1 v k ((List.range k).map natV) ∧ Kp No w x

set_option maxRecDepth 100000 in
set_option maxHeartbeats 1000000 in
theorem Identity_ok (n : Nat) (hn : n ≤ 6) (w : World) : Calls Try.prog 22 #[.int .i64 (n : Int)] w (NatsPost w (List.range n)) := by
  obtain ⟨i0, hi0, hz0, hz1, hz2⟩ := info_parts info_int
  go_enter Try.func22, Try.ntmps22
  go_wp2
  go_loopg [3, 4] n (fun gk s3 s4 wr => IdR w n gk s3 s4 wr)
  case atStart => exact ⟨0, _, by omega, rfl, rfl, World.ownsRow_nil _ _ _ _, Kp.refl _ _⟩
  case round =>
    obtain ⟨k, v, hk, rfl, e5, own, kp⟩ := hrel
    subst e5
    by_cases hlt : k < n
    · have hsz := kp.size
      have HK := Lib.hid hk
      have KP := Lib.hid kp
      have OWN := Lib.hid own
      have hlti : (k : Int) < n := by omega
      clear hk kp
      go_wp2_with (at_builtin; refine wpList_append_lies _ rfl (.tmp 10) (.tmp 12) _ rfl w.heap.size 3 i0 _ 1 8 Try.underlying33 hi0 hz0 hz1 hz2 rfl (by omega) v k ((List.range k).map natV) rfl (own.alloc _) ⟨wr.heap.size, 0, none⟩ 1 1 [.int .i64 (k : Int)] rfl rfl (World.news_of_block (heap_alloc_new _ _)) (by simp [Value.oneCell']) (by omega) (by unfold maxLen; omega) (by omega) (by simp; omega) (wr.heap.size + 1) (by simp) ?_; intro g cap w1 hown hgrow hat hlt2)
      have JN : Hid (IdR w n (n - (k + 1)) (.slice (some ⟨g, 0, none⟩) (k + 1) cap) (.int .i64 ((k + 1 : Nat) : Int)) w1) := by
        have kg : Kp (fun x => v.ownBlock = some x) wr w1 := grown_no (Kp.alloc _) hgrow
        refine ⟨k + 1, _, by omega, rfl, rfl, ?_, KP.out.trans (A' := fun x => v.ownBlock = some x) (fun x h => .inr (OWN.out.lt x h).1) kg⟩
        rw [List.range_succ, List.map_append]
        exact hown
      clear hown hgrow hat hlt2 own
      go_wp2
      go_roundg (n - (k + 1))
      case measure => have := HK.out; omega
      case rel => exact JN.out
    · obtain rfl : k = n := by omega
      have P : Hid (NatsPost w (List.range k) (.returned v) wr) := ⟨v, rfl, by rw [List.length_range]; exact own, kp⟩
      have hlti : ¬ (k : Int) < k := by omega
      clear own kp hk
      go_wp2
      go_ret
      exact P.out

/-! ### Depends -/
def depT (n : Nat) (F : BF) (v : Nat) : Bool := !eqT n (fun a => F (Mgr.upd a v false)) (fun a => F (Mgr.upd a v true))

theorem depT_iff {n v : Nat} {F : BF} (hF : Upto n F) : depT n F v = true ↔ ∃ a, F (Mgr.upd a v false) ≠ F (Mgr.upd a v true) := by
  unfold depT eqT
  rw [Bool.not_eq_true', decide_eq_false_iff_not, tab_eq hF.upd hF.upd]
  exact Classical.not_forall

set_option maxRecDepth 100000 in
set_option maxHeartbeats 1000000 in
theorem RDepends_ok {n v : Nat} (hn : n ≤ 6) (hv : v < n) {B : Nat} {fv : Value} {F : BF} {w : World} (hF : Upto n F) (hf : Tb B w fv (tab n F)) :
    Calls Try.prog 125 #[fv, .int .i64 (v : Int)] w fun e w' => e = .returned (.bool (depT n F v)) ∧ Kp No w w' := by
  obtain ⟨g, c, rfl, _⟩ := hf.form
  have R0 := Lib.hid (RRestrict_ok hn hv false hF hf)
  have R1 := Lib.hid (fun w1 (k : Kp No w w1) => RRestrict_ok hn hv true hF (hf.no k))
  have RE : Hid ((!eqT n (fun a => F (Mgr.upd a v false)) (fun a => F (Mgr.upd a v true))) = depT n F v) := Lib.hid rfl
  clear hf hF hv
  go_enter Try.func125, Try.ntmps125
  go_wp2_with fail
  refine R0.out.mono ?_
  rintro e w1 ⟨t0, rfl, h0, k0⟩
  obtain ⟨g0, c0, rfl, _⟩ := h0.form
  have H0 := Lib.hid h0
  have K0 := Lib.hid k0
  clear h0 k0
  go_wp2_with fail
  refine (R1.out w1 K0.out).mono ?_
  rintro e w2 ⟨t1, rfl, h1, k1⟩
  obtain ⟨g1, c1, rfl, _⟩ := h1.form
  have EQ := Lib.hid (REqual_ok hn (H0.out.no k1) h1)
  have K1 := Lib.hid (K0.out.trans_no k1)
  clear h1 k1
  go_wp2_with fail
  refine EQ.out.mono ?_
  rintro e w3 ⟨rfl, m, rfl⟩
  clear EQ
  generalize eqT n (fun a => F (Mgr.upd a v false)) (fun a => F (Mgr.upd a v true)) = q at *
  go_wp2_with fail
  go_ret
  exact ⟨by rw [← RE.out]; rfl, K1.out.trans_no (Kp.drewN _)⟩

/-! ### Support -/
def RSupR (w : World) (n : Nat) (F : BF) (gk : Nat) (s5 s6 : Value) (x : World) : Prop :=
  ∃ k v, k + gk = n ∧ s6 = .int .i64 (k : Int) ∧ v = s5 ∧ x.ownsRow w.heap.size 3 1 v ((List.range k).filter fun u => depT n F u).length (((List.range k).filter fun u => depT n F u).map natV) ∧ Kp No w x

set_option maxRecDepth 100000 in
set_option maxHeartbeats 1000000 in
theorem RSupport_ok {n : Nat} (hn : n ≤ 6) {B : Nat} {fv : Value} {F : BF} {w : World} (hF : Upto n F) (hf : Tb B w fv (tab n F)) :
    Calls Try.prog 107 #[fv, .int .i64 (n : Int)] w (NatsPost w ((List.range n).filter fun u => depT n F u)) := by
  obtain ⟨i0, hi0, hz0, hz1, hz2⟩ := info_parts info_int
  obtain ⟨g, c, rfl, _⟩ := hf.form
  have DEP := Lib.hid (fun (x : World) (k : Kp No w x) (v : Nat) (hv : v < n) => RDepends_ok hn hv hF (hf.no k))
  clear hf hF
  go_enter Try.func107, Try.ntmps107
  go_wp2
  go_loopg [5, 6] n (fun gk s5 s6 wr => RSupR w n F gk s5 s6 wr)
  case atStart => exact ⟨0, _, by omega, rfl, rfl, World.ownsRow_nil _ _ _ _, Kp.refl _ _⟩
  case round =>
    obtain ⟨k, v, hk, rfl, e5, own, kp⟩ := hrel
    subst e5
    by_cases hlt : k < n
    · have HK := Lib.hid hk
      have hlti : (k : Int) < n := by omega
      have hlen : ((List.range k).filter fun u => depT n F u).length ≤ k := Nat.le_trans (List.length_filter_le _ _) (by simp)
      have D := Lib.hid (DEP.out wr kp k hlt)
      have hfs : ((List.range (k + 1)).filter fun u => depT n F u) = ((List.range k).filter fun u => depT n F u) ++ (if depT n F k then [k] else []) := by
        rw [List.range_succ, List.filter_append]
        by_cases h : depT n F k = true <;> simp [h]
      have FS := Lib.hid hfs
      have OWN := Lib.hid own
      have KP := Lib.hid kp
      clear hk kp own hfs
      cases hd : depT n F k with
      | false =>
        rw [hd] at D
        have JN : Hid (∀ x, Kp No wr x → RSupR w n F (n - (k + 1)) v (.int .i64 ((k + 1 : Nat) : Int)) x) := Lib.hid (fun x kx => ⟨k + 1, v, by omega, rfl, rfl, by rw [FS.out, hd]; simpa using ownsRow_kp OWN.out kx (fun _ _ z => z), KP.out.trans_no kx⟩)
        clear hd
        go_wp2_with fail
        refine D.out.mono ?_
        rintro e w1 ⟨rfl, k1⟩
        have K1 := Lib.hid k1
        clear k1
        go_wp2_with fail
        go_roundg (n - (k + 1))
        case measure => have := HK.out; omega
        case rel => exact JN.out _ K1.out
      | true =>
        rw [hd] at D
        generalize hl2 : ((List.range k).filter fun u => depT n F u) = l at *
        have JN : Hid (∀ x A y g cap, Kp No wr x → Kp No x A → y.ownsRow w.heap.size 3 1 (.slice (some ⟨g, 0, none⟩) (l.length + 1) cap) (l.length + 1) (l.map natV ++ [.int .i64 (k : Int)]) → A.grownBy y v.ownBlock → RSupR w n F (n - (k + 1)) (.slice (some ⟨g, 0, none⟩) (l.length + 1) cap) (.int .i64 ((k + 1 : Nat) : Int)) y) := Lib.hid (fun x A y g cap kx kA hown hgrow => by
          have kg : Kp (fun x => v.ownBlock = some x) wr y := grown_no (kx.trans_no kA) hgrow
          refine ⟨k + 1, _, by omega, rfl, rfl, ?_, KP.out.trans (A' := fun x => v.ownBlock = some x) (fun x h => .inr (OWN.out.lt x h).1) kg⟩
          rw [FS.out, hd, if_pos rfl, List.map_append, List.length_append]
          exact hown)
        clear hd hl2 FS
        go_wp2_with fail
        refine D.out.mono ?_
        rintro e w1 ⟨rfl, k1⟩
        have own1 := ownsRow_kp OWN.out k1 (fun _ _ z => z)
        have K1 := Lib.hid k1
        have hsz := (KP.out.trans_no k1).size
        clear k1
        go_wp2_with (at_builtin; refine wpList_append_lies _ rfl (.tmp 15) (.tmp 17) _ rfl w.heap.size 3 i0 _ 1 8 Try.underlying33 hi0 hz0 hz1 hz2 rfl (by omega) v l.length (l.map natV) rfl (own1.alloc _) ⟨w1.heap.size, 0, none⟩ 1 1 [.int .i64 (k : Int)] rfl rfl (World.news_of_block (heap_alloc_new _ _)) (by simp [Value.oneCell']) (by omega) (by unfold maxLen; omega) (by omega) (by simp; omega) (w1.heap.size + 1) (by simp) ?_; intro g cap w2 hown hgrow hat hlt2)
        have J2 := Lib.hid (JN.out w1 _ w2 g cap K1.out (Kp.alloc _) hown hgrow)
        clear hown hgrow hat hlt2 own1
        go_wp2_with fail
        go_roundg (n - (k + 1))
        case measure => have := HK.out; omega
        case rel => exact J2.out
    · obtain rfl : k = n := by omega
      have P : Hid (NatsPost w ((List.range k).filter fun u => depT k F u) (.returned v) wr) := ⟨v, rfl, own, kp⟩
      have hlti : ¬ (k : Int) < k := by omega
      clear own kp hk
      go_wp2_with fail
      go_ret
      exact P.out

/-! ### Top -/
def RTopPost (w : World) (n : Nat) (F : BF) (o : Option Nat) (e : Ending) (w' : World) : Prop :=
  (o = none ∧ e = .returned (.tuple #[.int .i64 0, .slice none 0 0, .slice none 0 0, .bool false]) ∧ Kp No w w') ∨
  ∃ v tl th, o = some v ∧ e = .returned (.tuple #[.int .i64 (v : Int), tl, th, .bool true]) ∧ Tb w.heap.size w' tl (tab n (fun a => F (Mgr.upd a v false))) ∧ Tb w.heap.size w' th (tab n (fun a => F (Mgr.upd a v true))) ∧ Kp No w w'

def RTopR (w : World) (n : Nat) (F : BF) (ol : List Nat) (gk : Nat) (s8 : Value) (x : World) : Prop :=
  ∃ k, k + gk = ol.length ∧ s8 = .int .i64 (k : Int) ∧ (∀ i, i < k → depT n F (ol.getD i 0) = false) ∧ Kp No w x

theorem find_none_of {n : Nat} {F : BF} {ol : List Nat} (h : ∀ i, i < ol.length → depT n F (ol.getD i 0) = false) : ol.find? (depT n F) = none := by
  rw [List.find?_eq_none]
  intro x hx
  obtain ⟨i, hi, rfl⟩ := List.mem_iff_getElem.1 hx
  have := h i hi
  simp [hi] at this
  simp [this]
theorem find_some_of {n : Nat} {F : BF} : ∀ {ol : List Nat} {k : Nat}, k < ol.length → (∀ i, i < k → depT n F (ol.getD i 0) = false) → depT n F (ol.getD k 0) = true → ol.find? (depT n F) = some (ol.getD k 0)
  | [], k, hk, _, _ => by simp at hk
  | a :: l, 0, _, _, h => by simp at h; simp [h]
  | a :: l, k + 1, hk, h1, h => by
    have h0 := h1 0 (by omega)
    simp at h0
    have := find_some_of (ol := l) (k := k) (by simpa using hk) (fun i hi => by simpa using h1 (i + 1) (by omega)) (by simpa using h)
    rw [List.find?_cons, h0]
    simpa using this

set_option maxRecDepth 100000 in
set_option maxHeartbeats 2000000 in
theorem RTop_ok {n : Nat} (hn : n ≤ 6) {B : Nat} {fv ov : Value} {F : BF} {ol : List Nat} {w : World} (hF : Upto n F) (hf : Tb B w fv (tab n F)) (ho : SrcAt w ov 1 ol.length (ol.map natV)) (hol : ol.length ≤ 6) (hlt : ∀ i, i < ol.length → ol.getD i 0 < n) :
    Calls Try.prog 114 #[fv, ov] w (RTopPost w n F (ol.find? (depT n F))) := by
  obtain ⟨g, c, rfl, _⟩ := hf.form
  have HO := Lib.hid ho
  obtain ⟨ao, co, rfl⟩ := ho.form
  have DEP := Lib.hid (fun (x : World) (k : Kp No w x) (v : Nat) (hv : v < n) => RDepends_ok hn hv hF (hf.no k))
  have RES := Lib.hid (fun (x : World) (k : Kp No w x) (v : Nat) (hv : v < n) (b : Bool) => RRestrict_ok hn hv b hF (hf.no k))
  have HLT := Lib.hid hlt
  clear hf hF ho hlt
  go_enter Try.func114, Try.ntmps114
  go_wp2
  go_loopg [8] ol.length (fun gk s8 wr => RTopR w n F ol gk s8 wr)
  case atStart => exact ⟨0, by omega, rfl, fun i hi => by omega, Kp.refl _ _⟩
  case round =>
    obtain ⟨k, hk, rfl, hpre, kp⟩ := hrel
    by_cases hlt : k < ol.length
    · have hv := HLT.out k hlt
      have HK := Lib.hid hk
      have hlti : (k : Int) < ol.length := by omega
      obtain ⟨g1, o1, c1, hv1, hg1, hc1⟩ := (HO.out.no kp).cellAt (by omega)
      cases hv1
      have CL : Hid (∀ x, Kp No wr x → x.cell? ⟨g1, o1 + k, none⟩ = some (.int .i64 (ol.getD k 0 : Int))) := Lib.hid (fun x kx => by
        rw [kx.cell hg1 (fun z => z)]
        exact hc1 k _ (by simp [natV, hlt]))
      have f1 := CL.out wr (Kp.refl _ _)
      have D := Lib.hid (DEP.out wr kp _ hv)
      cases hd : depT n F (ol.getD k 0) with
      | false =>
        rw [hd] at D
        have JN : Hid (∀ x, Kp No wr x → RTopR w n F ol (ol.length - (k + 1)) (.int .i64 ((k + 1 : Nat) : Int)) x) := Lib.hid (fun x kx => ⟨k + 1, by omega, rfl, fun i hi => by
          rcases Nat.lt_or_ge i k with h | h
          · exact hpre i h
          · rw [show i = k by omega]; exact hd, kp.trans_no kx⟩)
        clear hd hpre kp hk hc1 hv
        generalize (ol.getD k 0 : Int) = v at *
        go_wp2_with fail
        refine D.out.mono ?_
        rintro e w1 ⟨rfl, k1⟩
        have K1 := Lib.hid k1
        clear k1
        go_wp2_with fail
        go_roundg (ol.length - (k + 1))
        case measure => have := HK.out; omega
        case rel => exact JN.out _ K1.out
      | true =>
        rw [hd] at D
        have FD := Lib.hid (find_some_of hlt hpre hd)
        have KP := Lib.hid kp
        have RS := Lib.hid (fun (x : World) (kx : Kp No wr x) (b : Bool) => RES.out x (kp.trans_no kx) _ hv b)
        clear hd hpre hk hc1 hv kp
        generalize ol.getD k 0 = v at *
        go_wp2_with fail
        refine D.out.mono ?_
        rintro e w1 ⟨rfl, k1⟩
        have K1 := Lib.hid k1
        clear k1 f1
        have S0 := Lib.hid (CL.out w1.drew (K1.out.trans_no Kp.drew))
        have C0 := Lib.hid (RS.out w1.drew (K1.out.trans_no Kp.drew) false)
        go_upto_region 5 with (fail)
        go_region_held3 (fun y => y.cell? ⟨g1, o1 + k, none⟩ = some (.int .i64 (v : Int))) (first | exact S0.out | exact SA.out | exact SB.out)
          (first | (go_at_call 68; (with_reducible refine C0.out.mono ?_); rintro e wa ⟨ta, rfl, hta, ka⟩; obtain ⟨ga, ca, rfl, _⟩ := hta.form; have KA := Lib.hid ((K1.out.trans_no Kp.drew).trans_no ka); have SA := Lib.hid (CL.out _ KA.out); have HTA := Lib.hid hta; have C1 := Lib.hid (RS.out wa KA.out true); clear hta ka) | (go_at_call 68; (with_reducible refine C1.out.mono ?_); rintro e wb ⟨tb, rfl, htb, kb⟩; obtain ⟨gb, cb, rfl, _⟩ := htb.form; have KB := Lib.hid (KA.out.trans_no kb); have SB := Lib.hid (CL.out _ KB.out); have HTB := Lib.hid htb; have HTA2 := Lib.hid (HTA.out.no kb); clear htb kb))
        all_goals
          go_wp2_with fail
          refine bodyPost_ret (v := .tuple #[.int .i64 (v : Int), .slice (some ⟨ga, 0, none⟩) (2 ^ n) ca, .slice (some ⟨gb, 0, none⟩) (2 ^ n) cb, .bool true]) (by simp [results, Try.results114, go_sem]) rfl ?_
          exact .inr ⟨v, _, _, FD.out, rfl, HTA2.out.mono (KP.out.trans_no (K1.out.trans_no Kp.drew)).size, HTB.out.mono (KP.out.trans_no KA.out).size, KP.out.trans_no KB.out⟩
    · obtain rfl : k = ol.length := by omega
      have FD := Lib.hid (find_none_of hpre)
      have KP := Lib.hid kp
      have hge : ¬ (ol.length : Int) < ol.length := by omega
      clear hk hpre kp
      go_wp2_with fail
      refine bodyPost_ret (v := .tuple #[.int .i64 0, .slice none 0 0, .slice none 0 0, .bool false]) (by simp [results, Try.results114, go_sem]) rfl ?_
      exact .inl ⟨FD.out, rfl, KP.out⟩

/-! ### Index -/
/-- A list of tables in memory. -/
structure Tabs (n : Nat) (x : World) (lv : Value) (tvs : List Value) (Fs : List BF) : Prop where
  src : SrcAt x lv 1 tvs.length tvs
  len : Fs.length = tvs.length
  tabs : ∀ i, i < tvs.length → Tb 0 x (tvs.getD i (.bool false)) (tab n (Fs.getD i (fun _ => false)))
theorem Tabs.no {n : Nat} {x y : World} {lv : Value} {tvs : List Value} {Fs : List BF} (j : Tabs n x lv tvs Fs) (k : Kp No x y) : Tabs n y lv tvs Fs := ⟨j.src.no k, j.len, fun i hi => (j.tabs i hi).no k⟩

def idxT (n : Nat) (Fs : List BF) (F : BF) : Int := match Fs.findIdx? (fun G => eqT n G F) with | some i => (i : Int) | none => -1

theorem idxT_none {n : Nat} {Fs : List BF} {F : BF} (h : ∀ i, i < Fs.length → eqT n (Fs.getD i (fun _ => false)) F = false) : idxT n Fs F = -1 := by
  unfold idxT
  have : Fs.findIdx? (fun G => eqT n G F) = none := by
    rw [List.findIdx?_eq_none_iff]
    intro x hx
    obtain ⟨i, hi, rfl⟩ := List.mem_iff_getElem.1 hx
    have := h i hi
    simpa [hi] using this
  rw [this]
theorem idxT_some {n : Nat} {Fs : List BF} {F : BF} {k : Nat} (hk : k < Fs.length) (h : ∀ i, i < k → eqT n (Fs.getD i (fun _ => false)) F = false) (hy : eqT n (Fs.getD k (fun _ => false)) F = true) : idxT n Fs F = (k : Int) := by
  unfold idxT
  have : Fs.findIdx? (fun G => eqT n G F) = some k := by
    rw [List.findIdx?_eq_some_iff_getElem]
    refine ⟨hk, by simpa [hk] using hy, fun j hj => ?_⟩
    have := h j hj
    simp [show j < Fs.length by omega] at this
    simp [this]
  rw [this]

def RIxR (w : World) (n : Nat) (Fs : List BF) (F : BF) (gk : Nat) (s5 : Value) (x : World) : Prop :=
  ∃ k m, k + gk = Fs.length ∧ s5 = .int .i64 (k : Int) ∧ (∀ i, i < k → eqT n (Fs.getD i (fun _ => false)) F = false) ∧ x = w.drewN m

set_option maxRecDepth 100000 in
set_option maxHeartbeats 1000000 in
theorem RIndex_ok {n : Nat} (hn : n ≤ 6) {B : Nat} {lv fv : Value} {tvs : List Value} {Fs : List BF} {F : BF} {w : World} (hl : Tabs n w lv tvs Fs) (hf : Tb B w fv (tab n F)) (hb : tvs.length ≤ 1000000000) :
    Calls Try.prog 115 #[lv, fv] w fun e w' => e = .returned (.int .i64 (idxT n Fs F)) ∧ ∃ m, w' = w.drewN m := by
  obtain ⟨g, c, rfl, _⟩ := hf.form
  have HL := Lib.hid hl
  have HLEN := Lib.hid hl.len
  have hlb : Fs.length ≤ 1000000000 := by rw [hl.len]; exact hb
  have hsrc := hl.src
  rw [← hl.len] at hsrc
  have SRC := Lib.hid hsrc
  obtain ⟨al, cl, rfl⟩ := hsrc.form
  have HF := Lib.hid hf
  clear hf hl hsrc hb
  go_enter Try.func115, Try.ntmps115
  go_wp2
  go_loopg [5] Fs.length (fun gk s5 wr => RIxR w n Fs F gk s5 wr)
  case atStart => exact ⟨0, 0, by omega, rfl, fun i hi => by omega, rfl⟩
  case round =>
    obtain ⟨k, m, hk, rfl, hpre, hw⟩ := hrel
    have HW := Lib.hid hw
    by_cases hlt : k < Fs.length
    · have hlt2 : k < tvs.length := by rw [← HLEN.out]; exact hlt
      obtain ⟨g1, o1, c1, hv1, _, hc1⟩ := (SRC.out.no (Kp.drewN m)).cellAt (by omega)
      cases hv1
      have f1 : wr.cell? ⟨g1, o1 + k, none⟩ = some (tvs.getD k (.bool false)) := by rw [hw]; exact hc1 k _ (by simp [hlt2])
      have EQ := Lib.hid (by have := REqual_ok hn ((HL.out.no (Kp.drewN m)).tabs k hlt2) (HF.out.no (Kp.drewN m)); rw [← hw] at this; exact this)
      have hlti : (k : Int) < Fs.length := by omega
      have HK := Lib.hid hk
      have YES := Lib.hid (fun hy => idxT_some hlt hpre hy)
      have NX : Hid (eqT n (Fs.getD k (fun _ => false)) F = false → ∀ m', RIxR w n Fs F (Fs.length - (k + 1)) (.int .i64 ((k + 1 : Nat) : Int)) (wr.drewN m')) := Lib.hid (fun hd m' => ⟨k + 1, m + m', by omega, rfl, fun i hi => by
          rcases Nat.lt_or_ge i k with h | h
          · exact hpre i h
          · rw [show i = k by omega]; exact hd, by rw [HW.out, World.drewN_drewN]⟩)
      clear hk hw hpre hc1
      generalize tvs.getD k (.bool false) = tv at *
      cases hq : eqT n (Fs.getD k (fun _ => false)) F with
      | false =>
        rw [hq] at EQ
        have N2 := Lib.hid (NX.out hq)
        clear hq NX YES
        go_wp2_with fail
        refine EQ.out.mono ?_
        rintro e w1 ⟨rfl, m1, rfl⟩
        go_wp2_with fail
        go_roundg (Fs.length - (k + 1))
        case measure => have := HK.out; omega
        case rel => exact N2.out _
      | true =>
        rw [hq] at EQ
        have Y2 := Lib.hid (YES.out hq)
        clear hq NX YES
        go_wp2_with fail
        refine EQ.out.mono ?_
        rintro e w1 ⟨rfl, m1, rfl⟩
        go_wp2_with fail
        go_ret
        exact ⟨by rw [Y2.out]; rfl, _, by rw [HW.out, World.drewN_drewN]⟩
    · obtain rfl : k = Fs.length := by omega
      have R := Lib.hid (idxT_none hpre)
      have hge : ¬ (Fs.length : Int) < Fs.length := by omega
      clear hk hpre hw
      go_wp2_with fail
      go_ret
      exact ⟨by rw [R.out]; rfl, m, HW.out⟩

end Go.Proofs.Ytngbodmooddjbaa
