/-
  Walks: 'Constant', 'code', 'visit', 'Nodes' of the reference netverifyref26.
-/
import Derived.Test.YtngbodmooddjbaaRefP
namespace Go.Proofs.Ytngbodmooddjbaa
open Go.RowKit

/-! ### Constant -/
def RCoR (w : World) (T : List Bool) (N gk : Nat) (s3 : Value) (x : World) : Prop :=
  ∃ k m, k + gk = N + 1 ∧ 1 ≤ k ∧ k ≤ N ∧ s3 = .int .i64 (k : Int) ∧ (∀ i : Nat, i < k → T[i]? = T[0]?) ∧ x = w.drewN m

theorem const_tab {M : Mgr} (h : M.WF) {f : Nat} (hf : M.stored f) : (∀ i, i < 2 ^ M.n → (tab M.n (M.sem f))[i]? = (tab M.n (M.sem f))[0]?) ↔ f < 2 := by
  have h0 : 0 < 2 ^ M.n := Nat.pow_pos (by omega)
  constructor
  · intro hall
    rcases Nat.lt_or_ge f 2 with h2 | h2
    · exact h2
    · exfalso
      obtain ⟨a, b, hab⟩ := Mgr.two_nonconst h hf h2
      have key : ∀ a, M.sem f a = M.sem f (bitsOf 0) := fun a => by
        have := hall (idx M.n a) (idx_lt _ _)
        rw [tab_get _ (idx_lt _ _), tab_get _ h0] at this
        rw [upto_sem h hf a (bitsOf (idx M.n a)) (fun v hv => (idx_bit _ _ _ hv).symm)]
        exact Option.some.inj this
      exact hab ((key a).trans (key b).symm)
  · intro h2 i hi
    rw [tab_get _ hi, tab_get _ h0, M.sem_const _ _ h2, M.sem_const _ _ h2]

/-! ### code -/
/-- Tables of stored functions. -/
def TabsV (M : Mgr) (x : World) (lv : Value) (tvs : List Value) (V : List Nat) : Prop := Tabs M.n x lv tvs (V.map M.sem)

/-! ### visit -/
/-- The list that is being made, a row of the call's own. -/
structure Vis (M : Mgr) (B : Nat) (x : World) (lv : Value) (tvs : List Value) (V : List Nat) : Prop where
  row : x.ownsRow B 45 1 lv tvs.length tvs
  len : V.length = tvs.length
  tabs : ∀ i, i < tvs.length → Tb 0 x (tvs.getD i (.bool false)) (tab M.n (M.sem (V.getD i 0)))

theorem Vis.no {M : Mgr} {B : Nat} {x y : World} {lv : Value} {tvs : List Value} {V : List Nat} (j : Vis M B x lv tvs V) (k : Kp No x y) : Vis M B y lv tvs V := ⟨ownsRow_kp j.row k (fun _ _ z => z), j.len, fun i hi => (j.tabs i hi).no k⟩
theorem Vis.tabsV {M : Mgr} {B : Nat} {x : World} {lv : Value} {tvs : List Value} {V : List Nat} (j : Vis M B x lv tvs V) : TabsV M x lv tvs V :=
  ⟨SrcAt.of_row j.row, by simp [j.len], fun i hi => by
    have := j.tabs i hi
    have hl := j.len
    have e : (V.map M.sem).getD i (fun _ => false) = M.sem (V.getD i 0) := by simp [show i < V.length by omega]
    rw [e]; exact this⟩
theorem Vis.mono {M : Mgr} {B B' : Nat} {x : World} {lv : Value} {tvs : List Value} {V : List Nat} (j : Vis M B x lv tvs V) (h : B' ≤ B) : Vis M B' x lv tvs V := ⟨ownsRow_mono j.row h, j.len, j.tabs⟩
theorem Vis.push {M : Mgr} {B : Nat} {x A y : World} {lv t : Value} {tvs : List Value} {V : List Nat} {f g cap : Nat} (j : Vis M B x lv tvs V) (ht : Tb 0 x t (tab M.n (M.sem f))) (kA : Kp No x A)
    (hown : y.ownsRow B 45 1 (.slice (some ⟨g, 0, none⟩) (tvs.length + 1) cap) (tvs.length + 1) (tvs ++ [t])) (hgrow : A.grownBy y lv.ownBlock) :
    Vis M B y (.slice (some ⟨g, 0, none⟩) (tvs.length + 1) cap) (tvs ++ [t]) (V ++ [f]) ∧ Kp (fun b => lv.ownBlock = some b) x y := by
  have kg : Kp (fun k => lv.ownBlock = some k) x y := grown_no kA hgrow
  have tb : ∀ u T, Tb 0 x u T → Tb 0 y u T := fun u T h => h.kp kg (fun k e z => row_ne (row_zero h) (row_zero j.row) (by decide) e z)
  have hl := j.len
  refine ⟨⟨by simpa using hown, by simp [hl], fun i hi => ?_⟩, kg⟩
  simp only [List.length_append, List.length_singleton] at hi
  rcases Nat.lt_or_ge i tvs.length with h1 | h1
  · have e1 : (tvs ++ [t]).getD i (.bool false) = tvs.getD i (.bool false) := by simp [List.getElem?_append_left h1]
    have e2 : (V ++ [f]).getD i 0 = V.getD i 0 := by simp [List.getElem?_append_left (show i < V.length by omega)]
    rw [e1, e2]; exact tb _ _ (j.tabs i h1)
  · have h2 : i = tvs.length := by omega
    subst h2
    have e1 : (tvs ++ [t]).getD tvs.length (.bool false) = t := by simp
    have e2 : (V ++ [f]).getD tvs.length 0 = f := by rw [← hl]; simp
    rw [e1, e2]; exact tb _ _ ht

def VisPost (M : Mgr) (B : Nat) (w : World) (lv : Value) (V : List Nat) (e : Ending) (w' : World) : Prop :=
  ∃ lv' tvs', e = .returned lv' ∧ Vis M B w' lv' tvs' V ∧ Kp (fun b => lv.ownBlock = some b) w w' ∧ ∀ b, lv'.ownBlock = some b → lv.ownBlock = some b ∨ w.heap.size ≤ b

set_option maxRecDepth 100000 in
set_option maxHeartbeats 4000000 in
theorem visit_step {M : Mgr} (hn : M.n ≤ 6) (h : M.WF) {k : Nat}
    (ih : ∀ (f : Nat) (w : World) (B B2 B3 : Nat) (lv fv ov : Value) (tvs : List Value) (s : List Nat × List Nat), M.stored f → M.n - M.depth f < k → SeenB M (M.depth f) s → Vis M B w lv tvs s.2 → B ≤ w.heap.size → Tb B2 w fv (tab M.n (M.sem f)) → w.ownsRow B3 3 1 ov M.n (M.order.map natV) → (M.walkS k s f).2.length ≤ 100000 →
      Calls Try.prog 87 #[lv, fv, ov] w (VisPost M B w lv (M.walkS k s f).2))
    (f : Nat) (w : World) (B B2 B3 : Nat) (lv fv ov : Value) (tvs : List Value) (s : List Nat × List Nat) (hf : M.stored f) (hk : M.n - M.depth f < k + 1) (hs : SeenB M (M.depth f) s) (hv : Vis M B w lv tvs s.2) (hB : B ≤ w.heap.size) (ht : Tb B2 w fv (tab M.n (M.sem f))) (ho : w.ownsRow B3 3 1 ov M.n (M.order.map natV)) (hb : (M.walkS (k + 1) s f).2.length ≤ 100000) :
    Calls Try.prog 87 #[lv, fv, ov] w (VisPost M B w lv (M.walkS (k + 1) s f).2) := by
  obtain ⟨i0, hi0, hz0, hz1, hz2⟩ := info_parts info_func'
  have hll := Nat.le_trans (M.walkS_len (k + 1) s f) hb
  obtain ⟨g1, c1, rfl, l1⟩ := ht.form
  obtain ⟨al, cl, rfl, _⟩ := ownsRow_len (row_zero hv.row)
  obtain ⟨ao, co, rfl, _⟩ := ownsRow_len (row_zero ho)
  have ol : M.order.length = M.n := rfl
  have HTOP := Lib.hid (RTop_ok hn (upto_sem h hf) ht (by rw [ol]; exact SrcAt.of_row ho) (by omega) (fun i hi => (h.lo_ i (by rw [← ol]; exact hi)).1))
  rw [top_find h hf] at HTOP
  have hvl := hv.len
  have HV := Lib.hid hv
  have HT := Lib.hid ht
  have HO := Lib.hid ho
  by_cases h2 : f < 2
  · rw [if_pos h2] at HTOP
    have e : M.walkS (k + 1) s f = s := by unfold Mgr.walkS; rw [if_pos (.inl h2)]
    rw [e]
    have P : Hid (∀ x, Kp No w x → VisPost M B w (.slice al tvs.length cl) s.2 (.returned (.slice al tvs.length cl)) x) := Lib.hid (fun x kx => ⟨_, tvs, rfl, HV.out.no kx, kx.of_no, fun b hb => .inl hb⟩)
    clear hv ht ho hs ih hb e h hf
    go_enter Try.func87, Try.ntmps87
    go_wp2_with fail
    refine HTOP.out.mono ?_
    intro e w1 hp
    rcases hp with ⟨_, rfl, k1⟩ | ⟨v, tl, th, hx, _⟩
    · have K1 := Lib.hid k1
      clear k1
      go_wp2_with fail
      go_ret
      exact P.out _ K1.out
    · cases hx
  · rw [if_neg h2] at HTOP
    have h2' : 2 ≤ f := by omega
    have hix := idxT_mem h hs.st hf
    have IX := Lib.hid (fun x (kx : Kp No w x) => RIndex_ok hn (hv.no kx).tabsV (ht.no kx) (by omega))
    by_cases hin : f ∈ s.2
    · have e : M.walkS (k + 1) s f = s := by unfold Mgr.walkS; rw [if_pos (.inr (hs.dn f hin))]
      rw [e]
      obtain ⟨i, _, hi⟩ := hix.1 hin
      rw [hi] at IX
      have P : Hid (∀ x, Kp No w x → VisPost M B w (.slice al tvs.length cl) s.2 (.returned (.slice al tvs.length cl)) x) := Lib.hid (fun x kx => ⟨_, tvs, rfl, HV.out.no kx, kx.of_no, fun b hb => .inl hb⟩)
      clear hv ht ho hs ih hb e h hf hix hi
      go_enter Try.func87, Try.ntmps87
      go_wp2_with fail
      refine HTOP.out.mono ?_
      intro e w1 hp
      rcases hp with ⟨hx, _⟩ | ⟨v, tl, th, hx, rfl, _, _, k1⟩
      · cases hx
      · have I2 := Lib.hid (IX.out w1 k1)
        have K1 := Lib.hid k1
        clear k1 hx
        go_wp2_with fail
        refine I2.out.mono ?_
        rintro e w2 ⟨rfl, m, rfl⟩
        have hi0 : (0 : Int) ≤ (i : Int) := by omega
        go_wp2_with fail
        go_ret
        exact P.out _ (K1.out.trans_no (Kp.drewN _))
    · have hi := hix.2 hin
      rw [hi] at IX
      have hnS : f ∉ s.1 := fun hx => hin (hs.up f hx (Nat.le_refl _))
      obtain ⟨v0, v1, sl, sh, ne, dl, dh⟩ := Mgr.node_of h hf h2'
      have q1 := Mgr.depth_le h sl
      have q2 := Mgr.depth_le h sh
      have b0 := hs.lo dl
      have e : M.walkS (k + 1) s f = ((M.walkS k (M.walkS k (f :: s.1, s.2) (M.nd f).2.1) (M.nd f).2.2).1, (M.walkS k (M.walkS k (f :: s.1, s.2) (M.nd f).2.1) (M.nd f).2.2).2 ++ [f]) := by
        conv => lhs; unfold Mgr.walkS
        rw [if_neg (by rintro (x | x); exact h2 x; exact hnS x)]
      have b1 : SeenB M (M.depth (M.nd f).2.2) (M.walkS k (f :: s.1, s.2) (M.nd f).2.1) := (hs.lo dh).walk h sl (by omega)
      rw [e] at hb ⊢
      simp only [List.length_append, List.length_singleton] at hb
      have hb1 := M.walkS_len k (M.walkS k (f :: s.1, s.2) (M.nd f).2.1) (M.nd f).2.2
      have C1 := Lib.hid (fun (x : World) (tl : Value) (B4 : Nat) (kx : Kp No w x) (htl : Tb B4 x tl (tab M.n (M.sem (M.nd f).2.1))) => ih (M.nd f).2.1 x B B4 B3 _ tl _ tvs (f :: s.1, s.2) sl (by omega) b0 (hv.no kx) (Nat.le_trans hB kx.size) htl (ownsRow_kp ho kx (fun _ _ z => z)) (by omega))
      have C2 := Lib.hid (fun (x : World) (lv1 th : Value) (tvs1 : List Value) (B4 : Nat) (hv1 : Vis M B x lv1 tvs1 (M.walkS k (f :: s.1, s.2) (M.nd f).2.1).2) (hBx : B ≤ x.heap.size) (hth : Tb B4 x th (tab M.n (M.sem (M.nd f).2.2))) (hox : x.ownsRow B3 3 1 (.slice ao M.n co) M.n (M.order.map natV)) => ih (M.nd f).2.2 x B B4 B3 lv1 th _ tvs1 _ sh (by omega) b1 hv1 hBx hth hox (by omega))
      have TL := Lib.hid (tab_lo h hf h2')
      have TH := Lib.hid (tab_hi h hf h2')
      clear hv ht ho hs ih e h hf hix hi b0 b1 sl sh dl dh q1 q2 hnS hb1 ol hk
      generalize (M.walkS k (f :: s.1, s.2) (M.nd f).2.1) = s1 at *
      generalize (M.walkS k s1 (M.nd f).2.2) = s2 at *
      go_enter Try.func87, Try.ntmps87
      go_wp2_with fail
      refine HTOP.out.mono ?_
      intro e w1 hp
      rcases hp with ⟨hx, _⟩ | ⟨v, tl, th, hx, rfl, htl, hth, k1⟩
      · cases hx
      · cases hx
        rw [TL.out] at htl
        rw [TH.out] at hth
        obtain ⟨gl, cl2, rfl, _⟩ := htl.form
        obtain ⟨gh, ch2, rfl, _⟩ := hth.form
        have I2 := Lib.hid (IX.out w1 k1)
        have K1 := Lib.hid k1
        have HTL := Lib.hid htl
        have HTH := Lib.hid hth
        clear k1 htl hth TL TH IX HTOP
        go_wp2_with fail
        refine I2.out.mono ?_
        rintro e w2 ⟨rfl, m, rfl⟩
        clear I2
        have K2 := Lib.hid (K1.out.trans_no (Kp.drewN (w := w1) m))
        have CL := Lib.hid (C1.out (w1.drewN m) _ _ K2.out (HTL.out.no (Kp.drewN m)))
        have HTH2 := Lib.hid (HTH.out.no (Kp.drewN (w := w1) m))
        clear C1 HTH HTL K1
        generalize w1.drewN m = x2 at *
        go_wp2_with fail
        refine CL.out.mono ?_
        rintro e x3 ⟨lv1, tvs1, rfl, hv1, k3, hf1⟩
        have hth3 := HTH2.out.kp k3 (fun b e z => row_ne (row_zero HTH2.out) (row_zero (HV.out.no K2.out).row) (by decide) e z)
        have ho3 := ownsRow_kp (ownsRow_kp HO.out K2.out (fun _ _ z => z)) k3 (fun b e z => row_ne (row_zero (ownsRow_kp HO.out K2.out (fun _ _ z => z))) (row_zero (HV.out.no K2.out).row) (by decide) e z)
        have ht3 := (HT.out.no K2.out).kp k3 (fun b e z => row_ne (row_zero (HT.out.no K2.out)) (row_zero (HV.out.no K2.out).row) (by decide) e z)
        have hB2 := Nat.le_trans hB K2.out.size
        have CH := Lib.hid (C2.out x3 lv1 _ tvs1 _ hv1 (Nat.le_trans hB2 k3.size) hth3 ho3)
        have HT3 := Lib.hid ht3
        have K3 := Lib.hid (K2.out.of_no.trans (A' := fun b => (Value.slice al tvs.length cl).ownBlock = some b) (fun b e => .inl e) k3)
        have HF1 := Lib.hid hf1
        have HV1 := Lib.hid hv1
        have hB3 := Nat.le_trans hB2 k3.size
        obtain ⟨a3, c3, rfl, _⟩ := ownsRow_len (row_zero hv1.row)
        clear hth3 ho3 ht3 hf1 hv1 k3 CL C2 HTH2
        go_wp2_with fail
        refine CH.out.mono ?_
        rintro e x4 ⟨lv2, tvs2, rfl, hv2, k4, hf2⟩
        have ht4 := HT3.out.kp k4 (fun b e z => row_ne (row_zero HT3.out) (row_zero HV1.out.row) (by decide) e z)
        have hB4 := Nat.le_trans hB3 k4.size
        have hl2 := hv2.len
        have own := hv2.row
        have HT4 := Lib.hid ht4
        have HV2 := Lib.hid hv2
        have FR2 : Hid (∀ b, lv2.ownBlock = some b → (Value.slice al tvs.length cl).ownBlock = some b ∨ w.heap.size ≤ b) := Lib.hid (fun b hb => by
          rcases hf2 b hb with x | x
          · rcases HF1.out b x with y | y
            · exact .inl y
            · exact .inr (Nat.le_trans K2.out.size y)
          · exact .inr (Nat.le_trans K3.out.size x))
        have K4 : Hid (Kp (fun b => (Value.slice al tvs.length cl).ownBlock = some b) w x4) := Lib.hid (K3.out.trans (A' := fun b => (Value.slice a3 tvs1.length c3).ownBlock = some b) (fun b e => (HF1.out b e).imp id (fun y => Nat.le_trans K2.out.size y)) k4)
        clear ht4 hv2 k4 hf2 CH
        have htl2 : tvs2.length ≤ 100000 := by omega
        go_wp2_with (at_builtin; refine wpList_append_lies _ rfl (.tmp 34) (.tmp 36) _ rfl B 45 i0 _ 1 24 Try.underlying39 hi0 hz0 hz1 hz2 rfl (by omega) lv2 tvs2.length tvs2 rfl (own.alloc _) ⟨x4.heap.size, 0, none⟩ 1 1 [.slice (some ⟨g1, 0, none⟩) (2 ^ M.n) c1] rfl rfl (World.news_of_block (heap_alloc_new _ _)) (by simp [Value.oneCell']) (by omega) (by unfold maxLen; omega) (by omega) (by simp; omega) (x4.heap.size + 1) (by simp) ?_; intro g cap x5 hown hgrow hat hlt2)
        have P : Hid (VisPost M B w (.slice al tvs.length cl) (s2.2 ++ [f]) (.returned (.slice (some ⟨g, 0, none⟩) (tvs2.length + 1) cap)) x5) := Lib.hid (by
          obtain ⟨p1, p2⟩ := HV2.out.push (HT4.out.mono (Nat.zero_le _)) (Kp.alloc _) hown hgrow
          refine ⟨_, _, rfl, p1, K4.out.trans (A' := fun b => lv2.ownBlock = some b) (fun b e => FR2.out b e) p2, fun b hb => ?_⟩
          cases hb
          rcases hat with hx | hx
          · exact FR2.out g hx
          · right
            have := K4.out.size
            show w.heap.size ≤ g
            omega)
        clear hown hgrow hat hlt2 own
        go_wp2_with fail
        go_ret
        exact P.out

theorem visit_ok {M : Mgr} (hn : M.n ≤ 6) (h : M.WF) : ∀ (k f : Nat) (w : World) (B B2 B3 : Nat) (lv fv ov : Value) (tvs : List Value) (s : List Nat × List Nat), M.stored f → M.n - M.depth f < k → SeenB M (M.depth f) s → Vis M B w lv tvs s.2 → B ≤ w.heap.size → Tb B2 w fv (tab M.n (M.sem f)) → w.ownsRow B3 3 1 ov M.n (M.order.map natV) → (M.walkS k s f).2.length ≤ 100000 →
      Calls Try.prog 87 #[lv, fv, ov] w (VisPost M B w lv (M.walkS k s f).2)
  | 0, _, _, _, _, _, _, _, _, _, _, _, hk, _, _, _, _, _, _ => by omega
  | k + 1, f, w, B, B2, B3, lv, fv, ov, tvs, s, hf, hk, hs, hv, hB, ht, ho, hb => visit_step hn h (fun f w B B2 B3 lv fv ov tvs s h1 h2 h3 h4 h5 h6 h7 h8 => visit_ok hn h k f w B B2 B3 lv fv ov tvs s h1 h2 h3 h4 h5 h6 h7 h8) f w B B2 B3 lv fv ov tvs s hf hk hs hv hB ht ho hb

/-! ### Nodes -/
def NodR (M : Mgr) (w : World) (rs : List Nat) (gk : Nat) (s5 s6 : Value) (x : World) : Prop :=
  ∃ k lv tvs, k + gk = rs.length ∧ s6 = .int .i64 (k : Int) ∧ lv = s5 ∧ Vis M w.heap.size x lv tvs (walkAll M (rs.take k)).2 ∧ Kp No w x

def NodPost (M : Mgr) (w : World) (V : List Nat) (e : Ending) (w' : World) : Prop := ∃ lv tvs, e = .returned lv ∧ Vis M w.heap.size w' lv tvs V ∧ Kp No w w'

set_option maxRecDepth 100000 in
set_option maxHeartbeats 2000000 in
theorem RNodes_ok {M : Mgr} (hn : M.n ≤ 6) (h : M.WF) {rs : List Nat} (hr : ∀ f, f ∈ rs → M.stored f) (hM : M.nodes.length ≤ 100000) {B3 : Nat} {lv ov : Value} {tvs : List Value} {w : World} (hl : TabsV M w lv tvs rs) (hlen : rs.length ≤ 1000000) (ho : w.ownsRow B3 3 1 ov M.n (M.order.map natV)) :
    Calls Try.prog 42 #[lv, ov] w (NodPost M w (walkAll M rs).2) := by
  have hll : rs.length = tvs.length := by have := hl.len; simpa using this
  obtain ⟨al, cl, hlv⟩ := hl.src.form
  subst hlv
  obtain ⟨ao, co, rfl, _⟩ := ownsRow_len (row_zero ho)
  have HL := Lib.hid hl
  have HLL := Lib.hid hll
  have VIS : Hid (∀ k, k < rs.length → ∀ (x : World) (lv1 : Value) (tvs1 : List Value), Kp No w x → Vis M w.heap.size x lv1 tvs1 (walkAll M (rs.take k)).2 → Calls Try.prog 87 #[lv1, tvs.getD k (.bool false), .slice ao M.n co] x (VisPost M w.heap.size x lv1 (walkAll M (rs.take (k + 1))).2)) := Lib.hid (fun k hk x lv1 tvs1 kx hv1 => by
    have sk : M.stored rs[k] := hr _ (List.getElem_mem _)
    have sv := walkAll_seen h (rs.take k) (fun f hf => hr f (List.mem_of_mem_take hf))
    have e : walkAll M (rs.take (k + 1)) = M.walkS (M.n + 1) (walkAll M (rs.take k)) rs[k] := by rw [List.take_succ_eq_append_getElem hk, walkAll_snoc]
    have sv2 := sv.walk h sk
    have hb := sv2.len h
    rw [e]
    have ht := (hl.no kx).tabs k (by omega)
    have e2 : (rs.map M.sem).getD k (fun _ => false) = M.sem rs[k] := by simp [hk]
    rw [e2] at ht
    exact visit_ok hn h (M.n + 1) rs[k] x w.heap.size 0 B3 lv1 _ _ tvs1 (walkAll M (rs.take k)) sk (by omega) (SeenB.of_seen sv _) hv1 kx.size ht (ownsRow_kp ho kx (fun _ _ z => z)) (by omega))
  have V0 : Hid (Vis M w.heap.size w (.slice none 0 0) [] (walkAll M (rs.take 0)).2) := Lib.hid ⟨World.ownsRow_nil _ _ _ _, by simp [walkAll], fun i hi => by simp at hi⟩
  rw [← hll]
  clear hl ho hr h hll
  go_enter Try.func42, Try.ntmps42
  go_wp2
  go_loopg [5, 6] rs.length (fun gk s5 s6 x => NodR M w rs gk s5 s6 x)
  case atStart => exact ⟨0, _, [], by omega, rfl, rfl, V0.out, Kp.refl _ _⟩
  case round =>
    clear V0
    obtain ⟨k, lv, tvs1, hk, rfl, e5, hv, kp⟩ := hrel
    subst e5
    by_cases hlt : k < rs.length
    · have hlt2 : k < tvs.length := by rw [← HLL.out]; exact hlt
      have hs2 := (HL.out.no kp).src
      obtain ⟨g1, o1, c1, hv1, _, hc1⟩ := hs2.cellAt (by omega)
      have hv1' : al = some ⟨g1, o1, none⟩ := by cases hv1; rfl
      subst hv1'
      have f1 : wr.cell? ⟨g1, o1 + k, none⟩ = some (tvs.getD k (.bool false)) := hc1 k _ (by simp [hlt2])
      have CA := Lib.hid (VIS.out k hlt wr lv tvs1 kp hv)
      have hlti : (k : Int) < rs.length := by omega
      have HK := Lib.hid hk
      have KP := Lib.hid kp
      have GE : Hid (∀ b, lv.ownBlock = some b → w.heap.size ≤ b) := Lib.hid (fun b hb => (hv.row.lt b hb).1)
      obtain ⟨a5, c5, rfl, _⟩ := ownsRow_len (row_zero hv.row)
      clear hk kp hv hs2 hv1 hc1
      generalize tvs.getD k (.bool false) = tk at *
      go_wp2_with fail
      refine CA.out.mono ?_
      rintro e x1 ⟨lv2, tvs2, rfl, hv2, k2, _⟩
      have NX : Hid (NodR M w rs (rs.length - (k + 1)) lv2 (.int .i64 ((k + 1 : Nat) : Int)) x1) := Lib.hid ⟨k + 1, lv2, tvs2, by omega, rfl, rfl, hv2, KP.out.trans (A' := fun b => (Value.slice a5 tvs1.length c5).ownBlock = some b) (fun b e => .inr (GE.out b e)) k2⟩
      clear hv2 k2 CA
      go_wp2_with fail
      go_roundg (rs.length - (k + 1))
      case measure => have := HK.out; omega
      case rel => exact NX.out
    · obtain rfl : k = rs.length := by omega
      rw [List.take_length] at hv
      have P : Hid (NodPost M w (walkAll M rs).2 (.returned lv) wr) := Lib.hid ⟨lv, tvs1, rfl, hv, kp⟩
      have hge : ¬ (rs.length : Int) < rs.length := by omega
      clear hk kp hv
      go_wp2_with fail
      go_ret
      exact P.out

end Go.Proofs.Ytngbodmooddjbaa
