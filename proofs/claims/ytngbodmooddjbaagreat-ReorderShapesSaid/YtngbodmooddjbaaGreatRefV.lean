/-
  Walks: 'Save' of the reference netverifyref26.
-/
import Derived.Test.YtngbodmooddjbaaGreatRefT
import Derived.Test.YtngbodmooddjbaaGreatSaveP
namespace Go.Proofs.YtngbodmooddjbaaGreat

theorem upto_sem {M : Mgr} (h : M.WF) {f : Nat} (hf : M.stored f) : Upto M.n (M.sem f) := fun a b hab => Mgr.sem_reads h hf a b (fun v hv _ => hab v hv)

theorem dep_above {M : Mgr} (h : M.WF) {f : Nat} (hf : M.stored f) {i : Nat} (hi : i < M.depth f) : depT M.n (M.sem f) (M.ord i) = false := by
  have hd := Mgr.depth_le h hf
  have hl := (h.lo_ i (by omega)).2
  cases e : depT M.n (M.sem f) (M.ord i) with
  | false => rfl
  | true =>
    obtain ⟨a, ha⟩ := (depT_iff (upto_sem h hf)).1 e
    exact (ha (by rw [Mgr.sem_upd h hf _ _ _ (by rw [hl]; exact hi), Mgr.sem_upd h hf _ _ _ (by rw [hl]; exact hi)])).elim

theorem dep_at {M : Mgr} (h : M.WF) {f : Nat} (hf : M.stored f) (h2 : 2 ≤ f) : M.ord (M.depth f) = (M.nd f).1.toNat ∧ depT M.n (M.sem f) (M.nd f).1.toNat = true := by
  obtain ⟨v0, v1, _⟩ := Mgr.node_of h hf h2
  have hd : M.depth f = M.lev (M.nd f).1.toNat := by unfold Mgr.depth; rw [if_neg (by omega)]
  refine ⟨by rw [hd]; exact (h.ol _ (by omega)).2, (depT_iff (upto_sem h hf)).2 ?_⟩
  apply Classical.byContradiction
  intro hno
  exact Mgr.not_indep h (fun f g sf sg e => Mgr.canon h sf sg e) hf h2 (fun a => Classical.byContradiction fun hne => hno ⟨a, hne⟩)

/-- The variable that 'Top' of the reference finds. -/
theorem top_find {M : Mgr} (h : M.WF) {f : Nat} (hf : M.stored f) : M.order.find? (depT M.n (M.sem f)) = if f < 2 then none else some (M.nd f).1.toNat := by
  have hn : M.order.length = M.n := rfl
  by_cases h2 : f < 2
  · rw [if_pos h2]
    refine find_none_of (fun i hi => dep_above h hf ?_)
    rw [M.depth_const h2]; exact hi
  · rw [if_neg h2]
    obtain ⟨e1, e2⟩ := dep_at h hf (by omega)
    have hd := Mgr.depth_lt h hf (by omega)
    have := find_some_of (n := M.n) (F := M.sem f) (ol := M.order) (k := M.depth f) (by omega) (fun i hi => dep_above h hf hi) (by rw [show M.order.getD (M.depth f) 0 = M.ord (M.depth f) from rfl, e1]; exact e2)
    rw [this, show M.order.getD (M.depth f) 0 = M.ord (M.depth f) from rfl, e1]

theorem tab_lo {M : Mgr} (h : M.WF) {f : Nat} (hf : M.stored f) (h2 : 2 ≤ f) : (fun a => M.sem f (Mgr.upd a (M.nd f).1.toNat false)) = M.sem (M.nd f).2.1 := funext fun a => (Mgr.sem_lo h hf h2 a).symm
theorem tab_hi {M : Mgr} (h : M.WF) {f : Nat} (hf : M.stored f) (h2 : 2 ≤ f) : (fun a => M.sem f (Mgr.upd a (M.nd f).1.toNat true)) = M.sem (M.nd f).2.2 := funext fun a => (Mgr.sem_hi h hf h2 a).symm

theorem eqT_sem {M : Mgr} (h : M.WF) {f g : Nat} (hf : M.stored f) (hg : M.stored g) : eqT M.n (M.sem g) (M.sem f) = decide (g = f) := by
  unfold eqT
  rw [decide_eq_decide, tab_eq (upto_sem h hg) (upto_sem h hf)]
  exact ⟨fun e => Mgr.canon h hg hf e, fun e => by rw [e]; exact fun _ => rfl⟩

theorem idxT_mem {M : Mgr} (h : M.WF) {V : List Nat} (hV : ∀ g, g ∈ V → M.stored g) {f : Nat} (hf : M.stored f) : (f ∈ V → ∃ i : Nat, V[i]? = some f ∧ idxT M.n (V.map M.sem) (M.sem f) = (i : Int)) ∧ (f ∉ V → idxT M.n (V.map M.sem) (M.sem f) = -1) := by
  have hx : ∀ g, g ∈ V → eqT M.n (M.sem g) (M.sem f) = decide (g = f) := fun g hg => eqT_sem h hf (hV g hg)
  constructor
  · intro hm
    cases e : (V.map M.sem).findIdx? (fun G => eqT M.n G (M.sem f)) with
    | none =>
      rw [List.findIdx?_eq_none_iff] at e
      have := e (M.sem f) (List.mem_map.2 ⟨f, hm, rfl⟩)
      rw [hx f hm] at this
      simp at this
    | some i =>
      refine ⟨i, ?_, by unfold idxT; rw [e]⟩
      rw [List.findIdx?_eq_some_iff_getElem] at e
      obtain ⟨hi, h1, _⟩ := e
      have hi' : i < V.length := by simpa using hi
      rw [List.getElem_map, hx _ (List.getElem_mem _)] at h1
      have : V[i] = f := by simpa using h1
      rw [List.getElem?_eq_getElem hi', this]
  · intro hm
    have : (V.map M.sem).findIdx? (fun G => eqT M.n G (M.sem f)) = none := by
      rw [List.findIdx?_eq_none_iff]
      intro x hx'
      obtain ⟨g, hg, rfl⟩ := List.mem_map.1 hx'
      rw [hx g hg]
      exact decide_eq_false (fun e => hm (e ▸ hg))
    unfold idxT; rw [this]

/-- The code of a function among the listed ones. -/
theorem code_idx {M : Mgr} (h : M.WF) {V : List Nat} (hV : ∀ g, g ∈ V → M.stored g ∧ 2 ≤ g) (hn : V.Nodup) {f : Nat} (hf : M.stored f) (hin : 2 ≤ f → f ∈ V) : (if f < 2 then (f : Int) else idxT M.n (V.map M.sem) (M.sem f) + 2) = (code0 V f : Int) := by
  by_cases h2 : f < 2
  · rw [if_pos h2, code0_low h2 (fun hm => by have := (hV f hm).2; omega)]
  · rw [if_neg h2]
    obtain ⟨i, hi, e⟩ := (idxT_mem h (fun g hg => (hV g hg).1) hf).1 (hin (by omega))
    rw [e, code0_at hn hi]
    omega

/-- The support of the reference is the manager's. -/
theorem supp_ref {M : Mgr} (h : M.WF) {f : Nat} (hf : M.stored f) : ((List.range M.n).filter fun u => depT M.n (M.sem f) u) = M.supp f := by
  unfold Mgr.supp
  refine List.filter_congr (fun v hv => ?_)
  have hv' : v < M.n := by simpa using hv
  have h1 := Mgr.supp_iff h hf v
  unfold Mgr.supp at h1
  rw [List.mem_filter] at h1
  rw [Bool.eq_iff_iff, depT_iff (upto_sem h hf)]
  constructor
  · intro hx; exact (h1.2 ⟨hv', hx⟩).2
  · intro hx; exact (h1.1 ⟨hv, hx⟩).2

/-- Seen but not visited: only above the function at hand. -/
structure SeenB (M : Mgr) (d : Nat) (s : List Nat × List Nat) : Prop where
  up : ∀ g, g ∈ s.1 → d ≤ M.depth g → g ∈ s.2
  dn : ∀ g, g ∈ s.2 → g ∈ s.1
  st : ∀ g, g ∈ s.2 → M.stored g

theorem SeenB.lo {M : Mgr} {f : Nat} {s : List Nat × List Nat} (b : SeenB M (M.depth f) s) {d : Nat} (hd : M.depth f < d) : SeenB M d (f :: s.1, s.2) :=
  ⟨fun g hg hdg => by
    rcases List.mem_cons.1 hg with rfl | hg
    · omega
    · exact b.up g hg (by omega), fun g hg => List.mem_cons_of_mem _ (b.dn g hg), b.st⟩
theorem SeenB.walk {M : Mgr} (h : M.WF) {k f d : Nat} {s : List Nat × List Nat} (hf : M.stored f) (hk : M.n - M.depth f < k) (b : SeenB M d s) : SeenB M d (M.walkS k s f) := by
  obtain ⟨N, sp⟩ := Mgr.walk_spec h k f s hf hk
  refine ⟨fun g hg hd => ?_, fun g hg => ?_, fun g hg => ?_⟩
  · rw [sp.vis, List.mem_append]
    rcases (sp.seen g).1 hg with x | x
    · exact .inl (b.up g x hd)
    · exact .inr x
  · rw [sp.vis, List.mem_append] at hg
    exact (sp.seen g).2 (hg.imp (b.dn g) id)
  · rw [sp.vis, List.mem_append] at hg
    rcases hg with hg | hg
    · exact b.st g hg
    · exact (sp.deep g hg).1
theorem SeenB.of_seen {M : Mgr} {s : List Nat × List Nat} (v : SeenV M s) (d : Nat) : SeenB M d s := ⟨fun g hg _ => (v.mem g).1 hg, fun g hg => (v.mem g).2 hg, fun g hg => (v.st g hg).1⟩

/-- All the nodes of some functions. -/
def walkAll (M : Mgr) (rs : List Nat) : List Nat × List Nat := rs.foldl (fun s f => M.walkS (M.n + 1) s f) ([], [])
theorem walkAll_snoc (M : Mgr) (rs : List Nat) (f : Nat) : walkAll M (rs ++ [f]) = M.walkS (M.n + 1) (walkAll M rs) f := by simp [walkAll, List.foldl_append]
theorem walkAll_one (M : Mgr) (f : Nat) : (walkAll M [f]).2 = M.nodesOf f := rfl
theorem walkAll_seen {M : Mgr} (h : M.WF) : ∀ (rs : List Nat), (∀ f, f ∈ rs → M.stored f) → SeenV M (walkAll M rs) := by
  have : ∀ (rs : List Nat) s, SeenV M s → (∀ f, f ∈ rs → M.stored f) → SeenV M (rs.foldl (fun s f => M.walkS (M.n + 1) s f) s) := by
    intro rs
    induction rs with
    | nil => intro s hs _; exact hs
    | cons f rs ih => intro s hs hr; rw [List.foldl_cons]; exact ih _ (hs.walk h (hr f (by simp))) (fun g hg => hr g (by simp [hg]))
  exact fun rs hr => this rs _ (SeenV.nil M) hr
theorem walkAll_save {M : Mgr} (fs : List Int) (hv : ∀ f, f ∈ fs → M.valid f = true) : (saveM M fs).1 = walkAll M (fs.map Int.toNat) := by
  have : ∀ (fs : List Int) st, (∀ f, f ∈ fs → M.valid f = true) → (fs.foldl (saveStep M) st).1 = (fs.map Int.toNat).foldl (fun s f => M.walkS (M.n + 1) s f) st.1 := by
    intro fs
    induction fs with
    | nil => intro st _; rfl
    | cons f fs ih =>
      intro st hv
      rw [List.foldl_cons, List.map_cons, List.foldl_cons, ih _ (fun g hg => hv g (by simp [hg]))]
      unfold saveStep
      rw [if_pos (hv f (by simp))]
  exact this fs _ hv

end Go.Proofs.YtngbodmooddjbaaGreat

namespace Go.Proofs.YtngbodmooddjbaaGreat
open Go.RowKit

/-! ### Constant -/
def RCoR (w : World) (T : List Bool) (N gk : Nat) (s3 : Value) (x : World) : Prop :=
  ∃ k m, k + gk = N + 1 ∧ 1 ≤ k ∧ k ≤ N ∧ s3 = .int .i64 (k : Int) ∧ (∀ i : Nat, i < k → T[i]? = T[0]?) ∧ x = w.drewN m

theorem const_tab {M : Mgr} (h : M.WF) {f : Nat} (hf : M.stored f) : (∀ i, i < 2 ^ M.n → (tab M.n (M.sem f))[i]? = (tab M.n (M.sem f))[0]?) ↔ f < 2 := by
  have h0 : 0 < 2 ^ M.n := Nat.pow_pos (by omega)
  constructor
  · intro hall
    rcases Nat.lt_or_ge f 2 with h2 | h2
    · exact h2
    · exfalso
      obtain ⟨a, b, hab⟩ := Mgr.two_nonconst h hf h2
      have key : ∀ a, M.sem f a = M.sem f (bitsOf 0) := fun a => by
        have := hall (idx M.n a) (idx_lt _ _)
        rw [tab_get _ (idx_lt _ _), tab_get _ h0] at this
        rw [upto_sem h hf a (bitsOf (idx M.n a)) (fun v hv => (idx_bit _ _ _ hv).symm)]
        exact Option.some.inj this
      exact hab ((key a).trans (key b).symm)
  · intro h2 i hi
    rw [tab_get _ hi, tab_get _ h0, M.sem_const _ _ h2, M.sem_const _ _ h2]

set_option maxRecDepth 100000 in
set_option maxHeartbeats 1000000 in
theorem RConstant_ok {M : Mgr} (hn : M.n ≤ 6) (h : M.WF) {f : Nat} (hf : M.stored f) {B : Nat} {fv : Value} {w : World} (ht : Tb B w fv (tab M.n (M.sem f))) :
    Calls Tryz.prog 74 #[fv] w fun e w' => e = .returned (.bool (decide (f < 2))) ∧ ∃ m, w' = w.drewN m := by
  have hN := pow_le_64 hn
  have h0 : 0 < 2 ^ M.n := Nat.pow_pos (by omega)
  obtain ⟨g1, c1, rfl, l1⟩ := ht.form
  have C1 : Hid (∀ m i, i < 2 ^ M.n → (w.drewN m).cell? ⟨g1, i, none⟩ = some (.bool (M.sem f (bitsOf i)))) := Lib.hid (fun m i hi => ht.cellAt (Kp.drewN m) hi)
  have TF : Hid (∀ i, i < 2 ^ M.n → (tab M.n (M.sem f))[i]? = some (M.sem f (bitsOf i))) := Lib.hid (fun i hi => tab_get _ hi)
  have CT := Lib.hid (const_tab h hf)
  clear ht h hf
  generalize tab M.n (M.sem f) = T at *
  generalize M.sem f = F at *
  generalize 2 ^ M.n = N at *
  go_enter Tryz.func74, Tryz.ntmps74
  go_wp2
  go_loopg [3] N (fun gk s3 wr => RCoR w T N gk s3 wr)
  case atStart => exact ⟨1, 0, by omega, by omega, by omega, rfl, fun i hi => by rw [show i = 0 by omega], rfl⟩
  case round =>
    obtain ⟨k, m, hk, hk1, hkN, rfl, hpre, hw⟩ := hrel
    have HW := Lib.hid hw
    by_cases hlt : k < N
    · have f1 := C1.out m k hlt
      have f0 := C1.out m 0 h0
      rw [← hw] at f1 f0
      clear hw
      have t1 := TF.out k hlt
      have t0 := TF.out 0 h0
      have hlti : (k : Int) < N := by omega
      have HK := Lib.hid hk
      by_cases hb : F (bitsOf k) = F (bitsOf 0)
      · have NX : Hid (∀ m', RCoR w T N (N - k) (.int .i64 ((k + 1 : Nat) : Int)) (wr.drewN m')) := Lib.hid (fun m' => ⟨k + 1, m + m', by omega, by omega, by omega, rfl, fun i hi => by
          rcases Nat.lt_or_ge i k with x | x
          · exact hpre i x
          · rw [show i = k by omega, t1, t0, hb], by rw [HW.out, World.drewN_drewN]⟩)
        rw [hb] at f1
        clear hk hpre t1 t0 hb
        generalize F (bitsOf 0) = b at *
        go_wp2
        go_quiet (fail)
        go_wp2
        go_roundg (N - k)
        case measure => have := HK.out; omega
        case rel => exact NX.out _
      · have R : Hid (decide (f < 2) = false) := Lib.hid (decide_eq_false (fun hx => by
          have := CT.out.2 hx k hlt
          rw [t1, t0] at this
          exact hb (Option.some.inj this)))
        have hb2 : (F (bitsOf k) == F (bitsOf 0)) = false := by simpa using hb
        clear hk hpre t1 t0 hb
        generalize F (bitsOf k) = b at *
        generalize F (bitsOf 0) = c at *
        go_wp2
        go_quiet (fail)
        go_wp2
        go_ret
        exact ⟨by rw [R.out]; rfl, _, by rw [HW.out, World.drewN_drewN]⟩
    · obtain rfl : k = N := by omega
      have R : Hid (decide (f < 2) = true) := Lib.hid (decide_eq_true (CT.out.1 hpre))
      have hlti : ¬ (k : Int) < k := by omega
      clear hk hpre hw
      go_wp2
      go_ret
      exact ⟨by rw [R.out]; rfl, m, HW.out⟩

/-! ### code -/
/-- Tables of stored functions. -/
def TabsV (M : Mgr) (x : World) (lv : Value) (tvs : List Value) (V : List Nat) : Prop := Tabs M.n x lv tvs (V.map M.sem)

set_option maxRecDepth 100000 in
set_option maxHeartbeats 1000000 in
theorem Rcode_ok {M : Mgr} (hn : M.n ≤ 6) (h : M.WF) {V : List Nat} (hV : ∀ g, g ∈ V → M.stored g ∧ 2 ≤ g) (hnd : V.Nodup) {f : Nat} (hf : M.stored f) (hin : 2 ≤ f → f ∈ V) {B : Nat} {lv fv : Value} {tvs : List Value} {w : World}
    (hl : TabsV M w lv tvs V) (ht : Tb B w fv (tab M.n (M.sem f))) (hb : tvs.length ≤ 1000000000) :
    Calls Tryz.prog 53 #[lv, fv] w fun e w' => e = .returned (.int .i64 (code0 V f : Int)) ∧ ∃ m, w' = w.drewN m := by
  have E := Lib.hid (code_idx h hV hnd hf hin)
  have CO := Lib.hid (RConstant_ok hn h hf ht)
  have IX := Lib.hid (fun m => RIndex_ok hn (hl.no (Kp.drewN m)) (ht.no (Kp.drewN m)) hb)
  have hlen : (V.map M.sem).length = tvs.length := hl.len
  have BD : Hid (2 ≤ f → 0 ≤ idxT M.n (V.map M.sem) (M.sem f) ∧ idxT M.n (V.map M.sem) (M.sem f) ≤ 1000000000) := Lib.hid (fun h2 => by
    obtain ⟨i, hi, e⟩ := (idxT_mem h (fun g hg => (hV g hg).1) hf).1 (hin h2)
    have := (List.getElem?_eq_some_iff.1 hi).1
    have : V.length = tvs.length := by simpa using hlen
    omega)
  obtain ⟨g1, c1, rfl, l1⟩ := ht.form
  have h0 : 0 < 2 ^ M.n := Nat.pow_pos (by omega)
  have C1 : Hid (∀ m, f < 2 → (w.drewN m).cell? ⟨g1, 0, none⟩ = some (.bool (f == 1))) := Lib.hid (fun m h2 => by rw [ht.cellAt (Kp.drewN m) h0, M.sem_const _ _ h2])
  obtain ⟨al, cl, hlv⟩ := hl.src.form
  subst hlv
  have hN := pow_le_64 hn
  clear hl ht hlen hV hin hf h hnd
  generalize idxT M.n (V.map M.sem) (M.sem f) = ix at *
  generalize 2 ^ M.n = N at *
  by_cases h2 : f < 2
  · rw [decide_eq_true h2] at CO
    have C2 := Lib.hid (fun m => C1.out m h2)
    have E2 : Hid ((code0 V f : Int) = (f : Int)) := Lib.hid (by rw [← E.out, if_pos h2])
    have hNi : (0 : Int) < N := by omega
    clear E BD C1 IX
    go_enter Tryz.func53, Tryz.ntmps53
    go_wp2_with fail
    refine CO.out.mono ?_
    rintro e w1 ⟨rfl, m, rfl⟩
    have f1 := C2.out m
    rcases (show f = 0 ∨ f = 1 by omega) with rfl | rfl
    · simp only [Nat.reduceBEq] at f1
      go_wp2_with fail
      go_ret
      exact ⟨by rw [E2.out]; rfl, m, rfl⟩
    · simp only [Nat.reduceBEq] at f1
      go_wp2_with fail
      go_ret
      exact ⟨by rw [E2.out]; rfl, m, rfl⟩
  · rw [decide_eq_false h2] at CO
    obtain ⟨b1, b2⟩ := BD.out (by omega)
    have E2 : Hid ((code0 V f : Int) = ix + 2) := Lib.hid (by rw [← E.out, if_neg h2])
    clear E BD C1
    go_enter Tryz.func53, Tryz.ntmps53
    go_wp2_with fail
    refine CO.out.mono ?_
    rintro e w1 ⟨rfl, m, rfl⟩
    go_wp2_with fail
    refine (IX.out m).mono ?_
    rintro e w2 ⟨rfl, m2, rfl⟩
    go_wp2_with fail
    go_ret
    exact ⟨by rw [E2.out]; rfl, _, rfl⟩

/-! ### visit -/
/-- The list that is being made, a row of the call's own. -/
structure Vis (M : Mgr) (B : Nat) (x : World) (lv : Value) (tvs : List Value) (V : List Nat) : Prop where
  row : x.ownsRow B 42 1 lv tvs.length tvs
  len : V.length = tvs.length
  tabs : ∀ i, i < tvs.length → Tb 0 x (tvs.getD i (.bool false)) (tab M.n (M.sem (V.getD i 0)))

theorem Vis.no {M : Mgr} {B : Nat} {x y : World} {lv : Value} {tvs : List Value} {V : List Nat} (j : Vis M B x lv tvs V) (k : Kp No x y) : Vis M B y lv tvs V := ⟨ownsRow_kp j.row k (fun _ _ z => z), j.len, fun i hi => (j.tabs i hi).no k⟩
theorem Vis.tabsV {M : Mgr} {B : Nat} {x : World} {lv : Value} {tvs : List Value} {V : List Nat} (j : Vis M B x lv tvs V) : TabsV M x lv tvs V :=
  ⟨SrcAt.of_row j.row, by simp [j.len], fun i hi => by
    have := j.tabs i hi
    have hl := j.len
    have e : (V.map M.sem).getD i (fun _ => false) = M.sem (V.getD i 0) := by simp [show i < V.length by omega]
    rw [e]; exact this⟩
theorem Vis.push {M : Mgr} {B : Nat} {x A y : World} {lv t : Value} {tvs : List Value} {V : List Nat} {f g cap : Nat} (j : Vis M B x lv tvs V) (ht : Tb 0 x t (tab M.n (M.sem f))) (kA : Kp No x A)
    (hown : y.ownsRow B 42 1 (.slice (some ⟨g, 0, none⟩) (tvs.length + 1) cap) (tvs.length + 1) (tvs ++ [t])) (hgrow : A.grownBy y lv.ownBlock) :
    Vis M B y (.slice (some ⟨g, 0, none⟩) (tvs.length + 1) cap) (tvs ++ [t]) (V ++ [f]) ∧ Kp (fun b => lv.ownBlock = some b) x y := by
  have kg : Kp (fun k => lv.ownBlock = some k) x y := grown_no kA hgrow
  have tb : ∀ u T, Tb 0 x u T → Tb 0 y u T := fun u T h => h.kp kg (fun k e z => row_ne (row_zero h) (row_zero j.row) (by decide) e z)
  have hl := j.len
  refine ⟨⟨by simpa using hown, by simp [hl], fun i hi => ?_⟩, kg⟩
  simp only [List.length_append, List.length_singleton] at hi
  rcases Nat.lt_or_ge i tvs.length with h1 | h1
  · have e1 : (tvs ++ [t]).getD i (.bool false) = tvs.getD i (.bool false) := by simp [List.getElem?_append_left h1]
    have e2 : (V ++ [f]).getD i 0 = V.getD i 0 := by simp [List.getElem?_append_left (show i < V.length by omega)]
    rw [e1, e2]; exact tb _ _ (j.tabs i h1)
  · have h2 : i = tvs.length := by omega
    subst h2
    have e1 : (tvs ++ [t]).getD tvs.length (.bool false) = t := by simp
    have e2 : (V ++ [f]).getD tvs.length 0 = f := by rw [← hl]; simp
    rw [e1, e2]; exact tb _ _ ht

def VisPost (M : Mgr) (B : Nat) (w : World) (lv : Value) (V : List Nat) (e : Ending) (w' : World) : Prop :=
  ∃ lv' tvs', e = .returned lv' ∧ Vis M B w' lv' tvs' V ∧ Kp (fun b => lv.ownBlock = some b) w w' ∧ ∀ b, lv'.ownBlock = some b → lv.ownBlock = some b ∨ w.heap.size ≤ b

set_option maxRecDepth 100000 in
set_option maxHeartbeats 4000000 in
theorem visit_step {M : Mgr} (hn : M.n ≤ 6) (h : M.WF) {k : Nat}
    (ih : ∀ (f : Nat) (w : World) (B B2 B3 : Nat) (lv fv ov : Value) (tvs : List Value) (s : List Nat × List Nat), M.stored f → M.n - M.depth f < k → SeenB M (M.depth f) s → Vis M B w lv tvs s.2 → B ≤ w.heap.size → Tb B2 w fv (tab M.n (M.sem f)) → w.ownsRow B3 3 1 ov M.n (M.order.map natV) → (M.walkS k s f).2.length ≤ 1000000000 →
      Calls Tryz.prog 73 #[lv, fv, ov] w (VisPost M B w lv (M.walkS k s f).2))
    (f : Nat) (w : World) (B B2 B3 : Nat) (lv fv ov : Value) (tvs : List Value) (s : List Nat × List Nat) (hf : M.stored f) (hk : M.n - M.depth f < k + 1) (hs : SeenB M (M.depth f) s) (hv : Vis M B w lv tvs s.2) (hB : B ≤ w.heap.size) (ht : Tb B2 w fv (tab M.n (M.sem f))) (ho : w.ownsRow B3 3 1 ov M.n (M.order.map natV)) (hb : (M.walkS (k + 1) s f).2.length ≤ 1000000000) :
    Calls Tryz.prog 73 #[lv, fv, ov] w (VisPost M B w lv (M.walkS (k + 1) s f).2) := by
  obtain ⟨i0, hi0, hz0, hz1, hz2⟩ := info_parts info_func'
  have hll := Nat.le_trans (M.walkS_len (k + 1) s f) hb
  obtain ⟨g1, c1, rfl, l1⟩ := ht.form
  obtain ⟨al, cl, rfl, _⟩ := ownsRow_len (row_zero hv.row)
  obtain ⟨ao, co, rfl, _⟩ := ownsRow_len (row_zero ho)
  have ol : M.order.length = M.n := rfl
  have HTOP := Lib.hid (RTop_ok hn (upto_sem h hf) ht (by rw [ol]; exact SrcAt.of_row ho) (by omega) (fun i hi => (h.lo_ i (by rw [← ol]; exact hi)).1))
  rw [top_find h hf] at HTOP
  have hvl := hv.len
  have HV := Lib.hid hv
  have HT := Lib.hid ht
  have HO := Lib.hid ho
  by_cases h2 : f < 2
  · rw [if_pos h2] at HTOP
    have e : M.walkS (k + 1) s f = s := by unfold Mgr.walkS; rw [if_pos (.inl h2)]
    rw [e]
    have P : Hid (∀ x, Kp No w x → VisPost M B w (.slice al tvs.length cl) s.2 (.returned (.slice al tvs.length cl)) x) := Lib.hid (fun x kx => ⟨_, tvs, rfl, HV.out.no kx, kx.of_no, fun b hb => .inl hb⟩)
    clear hv ht ho hs ih hb e h hf
    go_enter Tryz.func73, Tryz.ntmps73
    go_wp2_with fail
    refine HTOP.out.mono ?_
    intro e w1 hp
    rcases hp with ⟨_, rfl, k1⟩ | ⟨v, tl, th, hx, _⟩
    · have K1 := Lib.hid k1
      clear k1
      go_wp2_with fail
      go_ret
      exact P.out _ K1.out
    · cases hx
  · rw [if_neg h2] at HTOP
    have h2' : 2 ≤ f := by omega
    have hix := idxT_mem h hs.st hf
    have IX := Lib.hid (fun x (kx : Kp No w x) => RIndex_ok hn (hv.no kx).tabsV (ht.no kx) (by omega))
    by_cases hin : f ∈ s.2
    · have e : M.walkS (k + 1) s f = s := by unfold Mgr.walkS; rw [if_pos (.inr (hs.dn f hin))]
      rw [e]
      obtain ⟨i, _, hi⟩ := hix.1 hin
      rw [hi] at IX
      have P : Hid (∀ x, Kp No w x → VisPost M B w (.slice al tvs.length cl) s.2 (.returned (.slice al tvs.length cl)) x) := Lib.hid (fun x kx => ⟨_, tvs, rfl, HV.out.no kx, kx.of_no, fun b hb => .inl hb⟩)
      clear hv ht ho hs ih hb e h hf hix hi
      go_enter Tryz.func73, Tryz.ntmps73
      go_wp2_with fail
      refine HTOP.out.mono ?_
      intro e w1 hp
      rcases hp with ⟨hx, _⟩ | ⟨v, tl, th, hx, rfl, _, _, k1⟩
      · cases hx
      · have I2 := Lib.hid (IX.out w1 k1)
        have K1 := Lib.hid k1
        clear k1 hx
        go_wp2_with fail
        refine I2.out.mono ?_
        rintro e w2 ⟨rfl, m, rfl⟩
        have hi0 : (0 : Int) ≤ (i : Int) := by omega
        go_wp2_with fail
        go_ret
        exact P.out _ (K1.out.trans_no (Kp.drewN _))
    · have hi := hix.2 hin
      rw [hi] at IX
      have hnS : f ∉ s.1 := fun hx => hin (hs.up f hx (Nat.le_refl _))
      obtain ⟨v0, v1, sl, sh, ne, dl, dh⟩ := Mgr.node_of h hf h2'
      have q1 := Mgr.depth_le h sl
      have q2 := Mgr.depth_le h sh
      have b0 := hs.lo dl
      have e : M.walkS (k + 1) s f = ((M.walkS k (M.walkS k (f :: s.1, s.2) (M.nd f).2.1) (M.nd f).2.2).1, (M.walkS k (M.walkS k (f :: s.1, s.2) (M.nd f).2.1) (M.nd f).2.2).2 ++ [f]) := by
        conv => lhs; unfold Mgr.walkS
        rw [if_neg (by rintro (x | x); exact h2 x; exact hnS x)]
      have b1 : SeenB M (M.depth (M.nd f).2.2) (M.walkS k (f :: s.1, s.2) (M.nd f).2.1) := (hs.lo dh).walk h sl (by omega)
      rw [e] at hb ⊢
      simp only [List.length_append, List.length_singleton] at hb
      have hb1 := M.walkS_len k (M.walkS k (f :: s.1, s.2) (M.nd f).2.1) (M.nd f).2.2
      have C1 := Lib.hid (fun (x : World) (tl : Value) (B4 : Nat) (kx : Kp No w x) (htl : Tb B4 x tl (tab M.n (M.sem (M.nd f).2.1))) => ih (M.nd f).2.1 x B B4 B3 _ tl _ tvs (f :: s.1, s.2) sl (by omega) b0 (hv.no kx) (Nat.le_trans hB kx.size) htl (ownsRow_kp ho kx (fun _ _ z => z)) (by omega))
      have C2 := Lib.hid (fun (x : World) (lv1 th : Value) (tvs1 : List Value) (B4 : Nat) (hv1 : Vis M B x lv1 tvs1 (M.walkS k (f :: s.1, s.2) (M.nd f).2.1).2) (hBx : B ≤ x.heap.size) (hth : Tb B4 x th (tab M.n (M.sem (M.nd f).2.2))) (hox : x.ownsRow B3 3 1 (.slice ao M.n co) M.n (M.order.map natV)) => ih (M.nd f).2.2 x B B4 B3 lv1 th _ tvs1 _ sh (by omega) b1 hv1 hBx hth hox (by omega))
      have TL := Lib.hid (tab_lo h hf h2')
      have TH := Lib.hid (tab_hi h hf h2')
      clear hv ht ho hs ih e h hf hix hi b0 b1 sl sh dl dh q1 q2 hnS hb1 ol hk
      generalize (M.walkS k (f :: s.1, s.2) (M.nd f).2.1) = s1 at *
      generalize (M.walkS k s1 (M.nd f).2.2) = s2 at *
      go_enter Tryz.func73, Tryz.ntmps73
      go_wp2_with fail
      refine HTOP.out.mono ?_
      intro e w1 hp
      rcases hp with ⟨hx, _⟩ | ⟨v, tl, th, hx, rfl, htl, hth, k1⟩
      · cases hx
      · cases hx
        rw [TL.out] at htl
        rw [TH.out] at hth
        obtain ⟨gl, cl2, rfl, _⟩ := htl.form
        obtain ⟨gh, ch2, rfl, _⟩ := hth.form
        have I2 := Lib.hid (IX.out w1 k1)
        have K1 := Lib.hid k1
        have HTL := Lib.hid htl
        have HTH := Lib.hid hth
        clear k1 htl hth TL TH IX HTOP
        go_wp2_with fail
        refine I2.out.mono ?_
        rintro e w2 ⟨rfl, m, rfl⟩
        clear I2
        have K2 := Lib.hid (K1.out.trans_no (Kp.drewN (w := w1) m))
        have CL := Lib.hid (C1.out (w1.drewN m) _ _ K2.out (HTL.out.no (Kp.drewN m)))
        have HTH2 := Lib.hid (HTH.out.no (Kp.drewN (w := w1) m))
        clear C1 HTH HTL K1
        generalize w1.drewN m = x2 at *
        go_wp2_with fail
        refine CL.out.mono ?_
        rintro e x3 ⟨lv1, tvs1, rfl, hv1, k3, hf1⟩
        have hth3 := HTH2.out.kp k3 (fun b e z => row_ne (row_zero HTH2.out) (row_zero (HV.out.no K2.out).row) (by decide) e z)
        have ho3 := ownsRow_kp (ownsRow_kp HO.out K2.out (fun _ _ z => z)) k3 (fun b e z => row_ne (row_zero (ownsRow_kp HO.out K2.out (fun _ _ z => z))) (row_zero (HV.out.no K2.out).row) (by decide) e z)
        have ht3 := (HT.out.no K2.out).kp k3 (fun b e z => row_ne (row_zero (HT.out.no K2.out)) (row_zero (HV.out.no K2.out).row) (by decide) e z)
        have hB2 := Nat.le_trans hB K2.out.size
        have CH := Lib.hid (C2.out x3 lv1 _ tvs1 _ hv1 (Nat.le_trans hB2 k3.size) hth3 ho3)
        have HT3 := Lib.hid ht3
        have K3 := Lib.hid (K2.out.of_no.trans (A' := fun b => (Value.slice al tvs.length cl).ownBlock = some b) (fun b e => .inl e) k3)
        have HF1 := Lib.hid hf1
        have HV1 := Lib.hid hv1
        have hB3 := Nat.le_trans hB2 k3.size
        obtain ⟨a3, c3, rfl, _⟩ := ownsRow_len (row_zero hv1.row)
        clear hth3 ho3 ht3 hf1 hv1 k3 CL C2 HTH2
        go_wp2_with fail
        refine CH.out.mono ?_
        rintro e x4 ⟨lv2, tvs2, rfl, hv2, k4, hf2⟩
        have ht4 := HT3.out.kp k4 (fun b e z => row_ne (row_zero HT3.out) (row_zero HV1.out.row) (by decide) e z)
        have hB4 := Nat.le_trans hB3 k4.size
        have hl2 := hv2.len
        have own := hv2.row
        have HT4 := Lib.hid ht4
        have HV2 := Lib.hid hv2
        have FR2 : Hid (∀ b, lv2.ownBlock = some b → (Value.slice al tvs.length cl).ownBlock = some b ∨ w.heap.size ≤ b) := Lib.hid (fun b hb => by
          rcases hf2 b hb with x | x
          · rcases HF1.out b x with y | y
            · exact .inl y
            · exact .inr (Nat.le_trans K2.out.size y)
          · exact .inr (Nat.le_trans K3.out.size x))
        have K4 : Hid (Kp (fun b => (Value.slice al tvs.length cl).ownBlock = some b) w x4) := Lib.hid (K3.out.trans (A' := fun b => (Value.slice a3 tvs1.length c3).ownBlock = some b) (fun b e => (HF1.out b e).imp id (fun y => Nat.le_trans K2.out.size y)) k4)
        clear ht4 hv2 k4 hf2 CH
        have htl2 : tvs2.length ≤ 1000000000 := by omega
        go_wp2_with (at_builtin; refine wpList_append_lies _ rfl (.tmp 34) (.tmp 36) _ rfl B 42 i0 _ 1 24 Tryz.underlying30 hi0 hz0 hz1 hz2 rfl (by omega) lv2 tvs2.length tvs2 rfl (own.alloc _) ⟨x4.heap.size, 0, none⟩ 1 1 [.slice (some ⟨g1, 0, none⟩) (2 ^ M.n) c1] rfl rfl (World.news_of_block (heap_alloc_new _ _)) (by simp [Value.oneCell']) (by omega) (by unfold maxLen; omega) (by omega) (by simp; omega) (x4.heap.size + 1) (by simp) ?_; intro g cap x5 hown hgrow hat hlt2)
        have P : Hid (VisPost M B w (.slice al tvs.length cl) (s2.2 ++ [f]) (.returned (.slice (some ⟨g, 0, none⟩) (tvs2.length + 1) cap)) x5) := Lib.hid (by
          obtain ⟨p1, p2⟩ := HV2.out.push (HT4.out.mono (Nat.zero_le _)) (Kp.alloc _) hown hgrow
          refine ⟨_, _, rfl, p1, K4.out.trans (A' := fun b => lv2.ownBlock = some b) (fun b e => FR2.out b e) p2, fun b hb => ?_⟩
          cases hb
          rcases hat with hx | hx
          · exact FR2.out g hx
          · right
            have := K4.out.size
            show w.heap.size ≤ g
            omega)
        clear hown hgrow hat hlt2 own
        go_wp2_with fail
        go_ret
        exact P.out

theorem visit_ok {M : Mgr} (hn : M.n ≤ 6) (h : M.WF) : ∀ (k f : Nat) (w : World) (B B2 B3 : Nat) (lv fv ov : Value) (tvs : List Value) (s : List Nat × List Nat), M.stored f → M.n - M.depth f < k → SeenB M (M.depth f) s → Vis M B w lv tvs s.2 → B ≤ w.heap.size → Tb B2 w fv (tab M.n (M.sem f)) → w.ownsRow B3 3 1 ov M.n (M.order.map natV) → (M.walkS k s f).2.length ≤ 1000000000 →
      Calls Tryz.prog 73 #[lv, fv, ov] w (VisPost M B w lv (M.walkS k s f).2)
  | 0, _, _, _, _, _, _, _, _, _, _, _, hk, _, _, _, _, _, _ => by omega
  | k + 1, f, w, B, B2, B3, lv, fv, ov, tvs, s, hf, hk, hs, hv, hB, ht, ho, hb => visit_step hn h (fun f w B B2 B3 lv fv ov tvs s h1 h2 h3 h4 h5 h6 h7 h8 => visit_ok hn h k f w B B2 B3 lv fv ov tvs s h1 h2 h3 h4 h5 h6 h7 h8) f w B B2 B3 lv fv ov tvs s hf hk hs hv hB ht ho hb

/-! ### Nodes -/
def NodR (M : Mgr) (w : World) (rs : List Nat) (gk : Nat) (s5 s6 : Value) (x : World) : Prop :=
  ∃ k lv tvs, k + gk = rs.length ∧ s6 = .int .i64 (k : Int) ∧ lv = s5 ∧ Vis M w.heap.size x lv tvs (walkAll M (rs.take k)).2 ∧ Kp No w x

def NodPost (M : Mgr) (w : World) (V : List Nat) (e : Ending) (w' : World) : Prop := ∃ lv tvs, e = .returned lv ∧ Vis M w.heap.size w' lv tvs V ∧ Kp No w w'

set_option maxRecDepth 100000 in
set_option maxHeartbeats 2000000 in
theorem RNodes_ok {M : Mgr} (hn : M.n ≤ 6) (h : M.WF) {rs : List Nat} (hr : ∀ f, f ∈ rs → M.stored f) (hM : M.nodes.length ≤ 1000000000) {B3 : Nat} {lv ov : Value} {tvs : List Value} {w : World} (hl : TabsV M w lv tvs rs) (hlen : rs.length ≤ 1000000) (ho : w.ownsRow B3 3 1 ov M.n (M.order.map natV)) :
    Calls Tryz.prog 49 #[lv, ov] w (NodPost M w (walkAll M rs).2) := by
  have hll : rs.length = tvs.length := by have := hl.len; simpa using this
  obtain ⟨al, cl, hlv⟩ := hl.src.form
  subst hlv
  obtain ⟨ao, co, rfl, _⟩ := ownsRow_len (row_zero ho)
  have HL := Lib.hid hl
  have HLL := Lib.hid hll
  have VIS : Hid (∀ k, k < rs.length → ∀ (x : World) (lv1 : Value) (tvs1 : List Value), Kp No w x → Vis M w.heap.size x lv1 tvs1 (walkAll M (rs.take k)).2 → Calls Tryz.prog 73 #[lv1, tvs.getD k (.bool false), .slice ao M.n co] x (VisPost M w.heap.size x lv1 (walkAll M (rs.take (k + 1))).2)) := Lib.hid (fun k hk x lv1 tvs1 kx hv1 => by
    have sk : M.stored rs[k] := hr _ (List.getElem_mem _)
    have sv := walkAll_seen h (rs.take k) (fun f hf => hr f (List.mem_of_mem_take hf))
    have e : walkAll M (rs.take (k + 1)) = M.walkS (M.n + 1) (walkAll M (rs.take k)) rs[k] := by rw [List.take_succ_eq_append_getElem hk, walkAll_snoc]
    have sv2 := sv.walk h sk
    have hb := sv2.len h
    rw [e]
    have ht := (hl.no kx).tabs k (by omega)
    have e2 : (rs.map M.sem).getD k (fun _ => false) = M.sem rs[k] := by simp [hk]
    rw [e2] at ht
    exact visit_ok hn h (M.n + 1) rs[k] x w.heap.size 0 B3 lv1 _ _ tvs1 (walkAll M (rs.take k)) sk (by omega) (SeenB.of_seen sv _) hv1 kx.size ht (ownsRow_kp ho kx (fun _ _ z => z)) (by omega))
  have V0 : Hid (Vis M w.heap.size w (.slice none 0 0) [] (walkAll M (rs.take 0)).2) := Lib.hid ⟨World.ownsRow_nil _ _ _ _, by simp [walkAll], fun i hi => by simp at hi⟩
  rw [← hll]
  clear hl ho hr h hll
  go_enter Tryz.func49, Tryz.ntmps49
  go_wp2
  go_loopg [5, 6] rs.length (fun gk s5 s6 x => NodR M w rs gk s5 s6 x)
  case atStart => exact ⟨0, _, [], by omega, rfl, rfl, V0.out, Kp.refl _ _⟩
  case round =>
    clear V0
    obtain ⟨k, lv, tvs1, hk, rfl, e5, hv, kp⟩ := hrel
    subst e5
    by_cases hlt : k < rs.length
    · have hlt2 : k < tvs.length := by rw [← HLL.out]; exact hlt
      have hs2 := (HL.out.no kp).src
      obtain ⟨g1, o1, c1, hv1, _, hc1⟩ := hs2.cellAt (by omega)
      have hv1' : al = some ⟨g1, o1, none⟩ := by cases hv1; rfl
      subst hv1'
      have f1 : wr.cell? ⟨g1, o1 + k, none⟩ = some (tvs.getD k (.bool false)) := hc1 k _ (by simp [hlt2])
      have CA := Lib.hid (VIS.out k hlt wr lv tvs1 kp hv)
      have hlti : (k : Int) < rs.length := by omega
      have HK := Lib.hid hk
      have KP := Lib.hid kp
      have GE : Hid (∀ b, lv.ownBlock = some b → w.heap.size ≤ b) := Lib.hid (fun b hb => (hv.row.lt b hb).1)
      obtain ⟨a5, c5, rfl, _⟩ := ownsRow_len (row_zero hv.row)
      clear hk kp hv hs2 hv1 hc1
      generalize tvs.getD k (.bool false) = tk at *
      go_wp2_with fail
      refine CA.out.mono ?_
      rintro e x1 ⟨lv2, tvs2, rfl, hv2, k2, _⟩
      have NX : Hid (NodR M w rs (rs.length - (k + 1)) lv2 (.int .i64 ((k + 1 : Nat) : Int)) x1) := Lib.hid ⟨k + 1, lv2, tvs2, by omega, rfl, rfl, hv2, KP.out.trans (A' := fun b => (Value.slice a5 tvs1.length c5).ownBlock = some b) (fun b e => .inr (GE.out b e)) k2⟩
      clear hv2 k2 CA
      go_wp2_with fail
      go_roundg (rs.length - (k + 1))
      case measure => have := HK.out; omega
      case rel => exact NX.out
    · obtain rfl : k = rs.length := by omega
      rw [List.take_length] at hv
      have P : Hid (NodPost M w (walkAll M rs).2 (.returned lv) wr) := Lib.hid ⟨lv, tvs1, rfl, hv, kp⟩
      have hge : ¬ (rs.length : Int) < rs.length := by omega
      clear hk kp hv
      go_wp2_with fail
      go_ret
      exact P.out

end Go.Proofs.YtngbodmooddjbaaGreat

namespace Go.Proofs.YtngbodmooddjbaaGreat
open Go.RowKit

/-- The nodes as 'Save' writes them, with the codes of the whole list. -/
def nodeC (M : Mgr) (V : List Nat) (f : Nat) : Nd := ((M.nd f).1, code0 V (M.nd f).2.1, code0 V (M.nd f).2.2)

structure RSvJ (M : Mgr) (w : World) (V : List Nat) (lv : Value) (tvs : List Value) (x : World) : Prop where
  vis : Vis M w.heap.size x lv tvs V
  kp : Kp No w x
theorem RSvJ.no {M : Mgr} {w : World} {V : List Nat} {lv : Value} {tvs : List Value} {x y : World} (j : RSvJ M w V lv tvs x) (k : Kp No x y) : RSvJ M w V lv tvs y := ⟨j.vis.no k, j.kp.trans_no k⟩
/-- A row of another type grows. -/
theorem RSvJ.grow {M : Mgr} {w : World} {V : List Nat} {lv : Value} {tvs : List Value} {x A y : World} {e size n : Nat} {v : Value} {xs : List Value} (j : RSvJ M w V lv tvs x) (hr : x.ownsRow w.heap.size e size v n xs) (kA : Kp No x A) (hgrow : A.grownBy y v.ownBlock) (h1 : e ≠ 42) (h2 : e ≠ 4) : RSvJ M w V lv tvs y := by
  have kg : Kp (fun k => v.ownBlock = some k) x y := grown_no kA hgrow
  exact ⟨⟨ownsRow_kp j.vis.row kg (fun k e z => row_ne (row_zero j.vis.row) (row_zero hr) (Ne.symm h1) e z), j.vis.len, fun i hi => (j.vis.tabs i hi).kp kg (fun k e z => row_ne (row_zero (j.vis.tabs i hi)) (row_zero hr) (Ne.symm h2) e z)⟩,
    j.kp.trans (A' := fun k => v.ownBlock = some k) (fun k e => .inr (hr.lt k e).1) kg⟩

def RSvR1 (M : Mgr) (w : World) (V : List Nat) (lv : Value) (tvs : List Value) (gk : Nat) (s7 s9 : Value) (x : World) : Prop :=
  ∃ k nv, k + gk = V.length ∧ s9 = .int .i64 (k : Int) ∧ nv = s7 ∧ x.ownsRow w.heap.size 96 3 nv k (((V.take k).map (nodeC M V)).flatMap ndCells) ∧ RSvJ M w V lv tvs x
def RSvR2 (M : Mgr) (w : World) (V rs : List Nat) (lv nv : Value) (tvs : List Value) (gk : Nat) (s8 s14 : Value) (x : World) : Prop :=
  ∃ k av, k + gk = rs.length ∧ s14 = .int .i64 (k : Int) ∧ av = s8 ∧ x.ownsRow w.heap.size 3 1 av k ((rs.take k).map fun f => natV (code0 V f)) ∧ x.ownsRow w.heap.size 96 3 nv V.length ((V.map (nodeC M V)).flatMap ndCells) ∧ RSvJ M w V lv tvs x

set_option maxRecDepth 100000 in
set_option maxHeartbeats 4000000 in
theorem RSave_ok {M : Mgr} (hn : M.n ≤ 6) (h : M.WF) {rs : List Nat} (hr : ∀ f, f ∈ rs → M.stored f) (hM : M.nodes.length ≤ 1000000000) {B3 : Nat} {lv ov : Value} {tvs : List Value} {w : World} (hl : TabsV M w lv tvs rs) (hlen : rs.length ≤ 100000) (ho : w.ownsRow B3 3 1 ov M.n (M.order.map natV))
    (hsav : SavV M (walkAll M rs)) (hin : ∀ f, f ∈ rs → 2 ≤ f → f ∈ (walkAll M rs).2) :
    Calls Tryz.prog 14 #[lv, ov] w (SavePost w ((walkAll M rs).2.map (nodeC M (walkAll M rs).2)) (rs.map fun f => (code0 (walkAll M rs).2 f : Int))) := by
  obtain ⟨i0, hi0, hz0, hz1, hz2⟩ := info_parts info_apinode
  obtain ⟨j0, hj0, hy0, hy1, hy2⟩ := info_parts info_int
  have NOD := Lib.hid (RNodes_ok hn h hr hM hl (by omega) ho)
  have hll : rs.length = tvs.length := by have := hl.len; simpa using this
  obtain ⟨al, cl, hlv⟩ := hl.src.form
  subst hlv
  have HO := Lib.hid ho
  obtain ⟨ao, co, rfl, _⟩ := ownsRow_len (row_zero ho)
  have hVl := hsav.toSeenV.len h
  have HL := Lib.hid hl
  have HLL := Lib.hid hll
  have hst := hsav.toSeenV.st
  have hnd := hsav.toSeenV.nodup
  have CH : Hid (∀ i f, (walkAll M rs).2[i]? = some f → (2 ≤ (M.nd f).2.1 → (M.nd f).2.1 ∈ (walkAll M rs).2) ∧ (2 ≤ (M.nd f).2.2 → (M.nd f).2.2 ∈ (walkAll M rs).2)) := Lib.hid (fun i f hi => by
    have := hsav.topo i f hi
    exact ⟨fun h => List.mem_of_mem_take (this.1 h), fun h => List.mem_of_mem_take (this.2 h)⟩)
  have ol : M.order.length = M.n := rfl
  generalize (walkAll M rs).2 = V at *
  -- the callees' contracts
  have TOP : Hid (∀ (x : World) (lv1 : Value) (tvs1 : List Value), RSvJ M w V lv1 tvs1 x → ∀ k f, V[k]? = some f → Calls Tryz.prog 45 #[tvs1.getD k (.bool false), .slice ao M.n co] x (fun e y => ∃ tl th, e = .returned (.tuple #[.int .i64 (M.nd f).1, tl, th, .bool true]) ∧ Tb 0 y tl (tab M.n (M.sem (M.nd f).2.1)) ∧ Tb 0 y th (tab M.n (M.sem (M.nd f).2.2)) ∧ Kp No x y)) := Lib.hid (fun x lv1 tvs1 j k f hk => by
    obtain ⟨sf, h2⟩ := hst f (List.mem_of_getElem? hk)
    have hk2 := (List.getElem?_eq_some_iff.1 hk).1
    have ht := j.vis.tabs k (by rw [← j.vis.len]; exact hk2)
    have e : V.getD k 0 = f := by simp [hk]
    rw [e] at ht
    have := RTop_ok hn (upto_sem h sf) ht (by rw [ol]; exact SrcAt.of_row (ownsRow_kp HO.out j.kp (fun _ _ z => z))) (by omega) (fun i hi => (h.lo_ i (by rw [← ol]; exact hi)).1)
    rw [top_find h sf, if_neg (by omega)] at this
    refine this.mono ?_
    intro e y hp
    rcases hp with ⟨hx, _⟩ | ⟨v, tl, th, hx, rfl, h1, h3, k1⟩
    · cases hx
    · cases hx
      obtain ⟨v0, _⟩ := Mgr.node_of h sf h2
      rw [tab_lo h sf h2] at h1
      rw [tab_hi h sf h2] at h3
      exact ⟨tl, th, by rw [Int.toNat_of_nonneg v0], h1.mono (Nat.zero_le _), h3.mono (Nat.zero_le _), k1⟩)
  have COD : Hid (∀ (x : World) (lv1 : Value) (tvs1 : List Value), RSvJ M w V lv1 tvs1 x → ∀ c t, M.stored c → (2 ≤ c → c ∈ V) → Tb 0 x t (tab M.n (M.sem c)) → Calls Tryz.prog 53 #[lv1, t] x fun e y => e = .returned (.int .i64 (code0 V c : Int)) ∧ ∃ m, y = x.drewN m) := Lib.hid (fun x lv1 tvs1 j c t sc hc ht =>
    Rcode_ok hn h (fun g hg => hst g hg) hnd sc hc j.vis.tabsV ht (by have := j.vis.len; omega))
  have CST : Hid (∀ i f, V[i]? = some f → M.stored (M.nd f).2.1 ∧ M.stored (M.nd f).2.2) := Lib.hid (fun i f hi => by
    obtain ⟨sf, h2⟩ := hst f (List.mem_of_getElem? hi)
    obtain ⟨_, _, sl, sh, _⟩ := Mgr.node_of h sf h2
    exact ⟨sl, sh⟩)
  have ROOT : Hid (∀ k, k < rs.length → M.stored (rs.getD k 0) ∧ (2 ≤ rs.getD k 0 → rs.getD k 0 ∈ V)) := Lib.hid (fun k hk => by
    have e : rs.getD k 0 = rs[k] := by simp [hk]
    rw [e]
    exact ⟨hr _ (List.getElem_mem _), hin _ (List.getElem_mem _)⟩)
  rw [← hll] at NOD ⊢
  clear hl ho hr h hll hsav hin hst hnd ol
  go_enter Tryz.func14, Tryz.ntmps14
  go_wp2_with fail
  refine NOD.out.mono ?_
  rintro e w1 ⟨lv1, tvs1, rfl, hv, k1⟩
  have J1 : Hid (RSvJ M w V lv1 tvs1 w1) := Lib.hid ⟨hv, k1⟩
  have hlen1 := hv.len
  obtain ⟨a1, c1, rfl, _⟩ := ownsRow_len (row_zero hv.row)
  rw [← hlen1] at J1 ⊢
  have HLEN1 := Lib.hid hlen1
  clear hv k1 NOD hlen1
  go_wp2_with fail
  go_loopg [7, 9] V.length (fun gk s7 s9 x => RSvR1 M w V (.slice a1 V.length c1) tvs1 gk s7 s9 x)
  case atStart => exact ⟨0, _, by omega, rfl, rfl, World.ownsRow_nil _ _ _ _, J1.out⟩
  case round =>
    clear J1
    obtain ⟨k, nv, hk, rfl, e7, own, j⟩ := hrel
    subst e7
    by_cases hlt : k < V.length
    · obtain ⟨f, hf⟩ : ∃ f, V[k]? = some f := ⟨_, List.getElem?_eq_getElem hlt⟩
      have hlt2 : k < tvs1.length := by rw [← HLEN1.out]; exact hlt
      have hs2 := SrcAt.of_row j.vis.row
      obtain ⟨g1, o1, c2, hv1, _, hc1⟩ := hs2.cellAt (by omega)
      have hv1' : a1 = some ⟨g1, o1, none⟩ := by injection hv1
      subst hv1'
      have f1 : wr.cell? ⟨g1, o1 + k, none⟩ = some (tvs1.getD k (.bool false)) := hc1 k _ (by simp [hlt2])
      have CT := Lib.hid (TOP.out wr _ tvs1 j k f hf)
      have hlti : (k : Int) < V.length := by omega
      have HK := Lib.hid hk
      have SNOC : Hid (((V.take (k + 1)).map (nodeC M V)).flatMap ndCells = ((V.take k).map (nodeC M V)).flatMap ndCells ++ [.int .i64 (M.nd f).1, .int .i64 (code0 V (M.nd f).2.1 : Int), .int .i64 (code0 V (M.nd f).2.2 : Int)]) := Lib.hid (by
        have e : V[k] = f := by have := hf; rw [List.getElem?_eq_getElem hlt] at this; exact Option.some.inj this
        rw [List.take_succ_eq_append_getElem hlt, List.map_append, List.flatMap_append, e]
        rfl)
      have J := Lib.hid j
      have OWN := Lib.hid own
      obtain ⟨cl1, cl2⟩ := CH.out k f hf
      obtain ⟨st1, st2⟩ := CST.out k f hf
      have CD1 := Lib.hid (fun (x : World) (jx : RSvJ M w V (.slice (some ⟨g1, o1, none⟩) V.length c1) tvs1 x) t ht => COD.out x _ tvs1 jx (M.nd f).2.1 t st1 cl1 ht)
      have CD2 := Lib.hid (fun (x : World) (jx : RSvJ M w V (.slice (some ⟨g1, o1, none⟩) V.length c1) tvs1 x) t ht => COD.out x _ tvs1 jx (M.nd f).2.2 t st2 cl2 ht)
      clear hk j own hs2 hv1 hc1 hf cl1 cl2 st1 st2
      generalize tvs1.getD k (.bool false) = tk at *
      generalize M.nd f = nf at *
      go_wp2_with fail
      refine CT.out.mono ?_
      rintro e x1 ⟨tl, th, rfl, htl, hth, k1⟩
      obtain ⟨gl, cl2, rfl, _⟩ := htl.form
      obtain ⟨gh, ch2, rfl, _⟩ := hth.form
      have jx := J.out.no k1
      have CL := Lib.hid (CD1.out x1 jx _ htl)
      have JX := Lib.hid jx
      have HTH := Lib.hid hth
      have OW1 := Lib.hid (ownsRow_kp OWN.out k1 (fun _ _ z => z))
      clear k1 htl hth jx CT
      go_wp2_with fail
      refine CL.out.mono ?_
      rintro e x2 ⟨rfl, m, rfl⟩
      have jx2 := JX.out.no (Kp.drewN (w := x1) m)
      have CL2 := Lib.hid (CD2.out (x1.drewN m) jx2 _ (HTH.out.no (Kp.drewN m)))
      have OW2 := Lib.hid (ownsRow_kp OW1.out (Kp.drewN (w := x1) m) (fun _ _ z => z))
      have JX2 := Lib.hid jx2
      clear jx2 CL
      generalize x1.drewN m = y1 at *
      go_wp2_with fail
      refine CL2.out.mono ?_
      rintro e x2 ⟨rfl, m2, rfl⟩
      have own3 := ownsRow_kp OW2.out (Kp.drewN (w := y1) m2) (fun _ _ z => z)
      have JX3 := Lib.hid (JX2.out.no (Kp.drewN (w := y1) m2))
      have hsz := JX3.out.kp.size
      clear CL2
      generalize y1.drewN m2 = y2 at *
      generalize code0 V nf.2.1 = q1 at *
      generalize code0 V nf.2.2 = q2 at *
      go_wp2_with (at_builtin; refine wpList_append_lies _ rfl (.tmp 35) (.tmp 44) _ rfl w.heap.size 96 i0 _ 3 24 Tryz.underlying44 hi0 hz0 hz1 hz2 rfl (by omega) nv k (((V.take k).map (nodeC M V)).flatMap ndCells) rfl (own3.alloc _) ⟨y2.heap.size, 0, none⟩ 1 1 [.int .i64 nf.1, .int .i64 (q1 : Int), .int .i64 (q2 : Int)] rfl rfl (World.news_of_block (heap_alloc_new _ _)) (by simp [Value.oneCell']) (by omega) (by unfold maxLen; omega) (by omega) (by simp; omega) (y2.heap.size + 1) (by simp) ?_; intro g cap z hown hgrow hat hlt2)
      have NX : Hid (RSvR1 M w V (.slice (some ⟨g1, o1, none⟩) V.length c1) tvs1 (V.length - (k + 1)) (.slice (some ⟨g, 0, none⟩) (k + 1) cap) (.int .i64 ((k + 1 : Nat) : Int)) z) := Lib.hid
        ⟨k + 1, _, by omega, rfl, rfl, by rw [SNOC.out]; exact hown, JX3.out.grow own3 (Kp.alloc _) hgrow (by decide) (by decide)⟩
      clear hown hgrow hat hlt2 own3
      go_wp2_with fail
      go_roundg (V.length - (k + 1))
      case measure => have := HK.out; omega
      case rel => exact NX.out
    · obtain rfl : k = V.length := by omega
      rw [List.take_length] at own
      have hge : ¬ (V.length : Int) < V.length := by omega
      have J2 : Hid (RSvR2 M w V rs (.slice a1 V.length c1) nv tvs1 rs.length (.slice none 0 0) (.int .i64 0) wr) := Lib.hid ⟨0, _, by omega, rfl, rfl, World.ownsRow_nil _ _ _ _, own, j⟩
      obtain ⟨an, cn, rfl, _⟩ := ownsRow_len (row_zero own)
      clear hk own j TOP CH CST
      go_wp2_with fail
      go_loopg [8, 14] rs.length (fun gk s8 s14 x => RSvR2 M w V rs (.slice a1 V.length c1) (.slice an V.length cn) tvs1 gk s8 s14 x)
      case atStart => exact J2.out
      case round =>
        clear J2
        obtain ⟨k, av, hk, rfl, e8, own, nrow, j⟩ := hrel
        subst e8
        by_cases hlt : k < rs.length
        · have hlt2 : k < tvs.length := by rw [← HLL.out]; exact hlt
          have hs2 := (HL.out.no j.kp).src
          obtain ⟨g1, o1, c2, hv1, _, hc1⟩ := hs2.cellAt (by omega)
          have hv1' : al = some ⟨g1, o1, none⟩ := by injection hv1
          subst hv1'
          have f1 : wr.cell? ⟨g1, o1 + k, none⟩ = some (tvs.getD k (.bool false)) := hc1 k _ (by simp [hlt2])
          obtain ⟨sr, ir⟩ := ROOT.out k hlt
          have ht := (HL.out.no j.kp).tabs k hlt2
          have e2 : (rs.map M.sem).getD k (fun _ => false) = M.sem (rs.getD k 0) := by simp [hlt]
          rw [e2] at ht
          have CD := Lib.hid (COD.out wr _ tvs1 j (rs.getD k 0) _ sr ir ht)
          have SNOC : Hid (((rs.take (k + 1)).map fun f => natV (code0 V f)) = ((rs.take k).map fun f => natV (code0 V f)) ++ [.int .i64 (code0 V (rs.getD k 0) : Int)]) := Lib.hid (by
            have e : rs.getD k 0 = rs[k] := by simp [hlt]
            rw [List.take_succ_eq_append_getElem hlt, List.map_append, e]
            rfl)
          have hlti : (k : Int) < rs.length := by omega
          have HK := Lib.hid hk
          have J := Lib.hid j
          have OWN := Lib.hid own
          have NROW := Lib.hid nrow
          clear hk j own nrow hs2 hv1 hc1 sr ir ht e2
          generalize tvs.getD k (.bool false) = tk at *
          generalize code0 V (rs.getD k 0) = q1 at *
          go_wp2_with fail
          refine CD.out.mono ?_
          rintro e x1 ⟨rfl, m, rfl⟩
          have own3 := ownsRow_kp OWN.out (Kp.drewN (w := wr) m) (fun _ _ z => z)
          have nrow3 := ownsRow_kp NROW.out (Kp.drewN (w := wr) m) (fun _ _ z => z)
          have NR3 := Lib.hid nrow3
          have JX3 := Lib.hid (J.out.no (Kp.drewN (w := wr) m))
          have hsz := JX3.out.kp.size
          clear CD nrow3
          generalize wr.drewN m = y2 at *
          go_wp2_with (at_builtin; refine wpList_append_lies _ rfl (.tmp 52) (.tmp 59) _ rfl w.heap.size 3 j0 _ 1 8 Tryz.underlying24 hj0 hy0 hy1 hy2 rfl (by omega) av k ((rs.take k).map fun f => natV (code0 V f)) rfl (own3.alloc _) ⟨y2.heap.size, 0, none⟩ 1 1 [.int .i64 (q1 : Int)] rfl rfl (World.news_of_block (heap_alloc_new _ _)) (by simp [Value.oneCell']) (by omega) (by unfold maxLen; omega) (by omega) (by simp; omega) (y2.heap.size + 1) (by simp) ?_; intro g cap z hown hgrow hat hlt2)
          have NX : Hid (RSvR2 M w V rs (.slice a1 V.length c1) (.slice an V.length cn) tvs1 (rs.length - (k + 1)) (.slice (some ⟨g, 0, none⟩) (k + 1) cap) (.int .i64 ((k + 1 : Nat) : Int)) z) := Lib.hid
            ⟨k + 1, _, by omega, rfl, rfl, by rw [SNOC.out]; exact hown, ownsRow_kp NR3.out (grown_no (Kp.alloc _) hgrow) (fun b e z => row_ne (row_zero NR3.out) (row_zero own3) (by decide) e z), JX3.out.grow own3 (Kp.alloc _) hgrow (by decide) (by decide)⟩
          clear hown hgrow hat hlt2 own3
          go_wp2_with fail
          go_roundg (rs.length - (k + 1))
          case measure => have := HK.out; omega
          case rel => exact NX.out
        · obtain rfl : k = rs.length := by omega
          rw [List.take_length] at own
          have hge : ¬ (rs.length : Int) < rs.length := by omega
          have P : Hid (SavePost w (V.map (nodeC M V)) (rs.map fun f => (code0 V f : Int)) (.returned (.tuple #[.slice an V.length cn, av])) wr) := Lib.hid
            ⟨_, av, rfl, by simpa using nrow, by
              have : (rs.map fun f => (code0 V f : Int)).map intV = rs.map fun f => natV (code0 V f) := by rw [List.map_map]; rfl
              rw [this, List.length_map]
              exact own, j.kp⟩
          clear hk own nrow j
          go_wp2_with fail
          go_ret2
          exact P.out

end Go.Proofs.YtngbodmooddjbaaGreat
