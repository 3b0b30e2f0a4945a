/-
  Walks: 'Rename' of the package quant.
-/
import Derived.Test.YtdgnbbmgcgfibaaGreatDoorQ
import Derived.Test.YtdgnbbmgcgfibaaGreatDoorKeep
import Derived.Test.YtdgnbbmgcgfibaaGreatDoorRunJ
import Derived.Deep.CutBlock
import Derived.Deep.QuietTactic
import Derived.BigQuiet
import Derived.Deep.RegionHeld3
import Derived.Deep.RegionWith
namespace Go.Proofs.YtdgnbbmgcgfibaaGreatDoor

/-! ### lists of functions -/
/-- At most N functions. -/
def Listed (Φ : Bfn → Prop) (N : Nat) : Prop := ∃ e : Nat → Bfn, ∀ G, Φ G → ∃ i, i < N ∧ e i = G
theorem Listed.mono {Φ Ψ : Bfn → Prop} {N K : Nat} (h : Listed Ψ N) (i : ∀ G, Φ G → Ψ G) (k : N ≤ K) : Listed Φ K := by
  obtain ⟨e, he⟩ := h
  exact ⟨e, fun G hG => by obtain ⟨j, hj, ej⟩ := he G (i G hG); exact ⟨j, by omega, ej⟩⟩
theorem Listed.or {Φ Ψ : Bfn → Prop} {N K : Nat} (h : Listed Φ N) (g : Listed Ψ K) : Listed (fun G => Φ G ∨ Ψ G) (N + K) := by
  obtain ⟨e, he⟩ := h
  obtain ⟨d, hd⟩ := g
  refine ⟨fun i => if i < N then e i else d (i - N), fun G hG => ?_⟩
  rcases hG with hG | hG
  · obtain ⟨i, hi, rfl⟩ := he G hG
    exact ⟨i, by omega, if_pos hi⟩
  · obtain ⟨i, hi, rfl⟩ := hd G hG
    refine ⟨N + i, by omega, ?_⟩
    show (if N + i < N then _ else _) = _
    rw [if_neg (by omega), Nat.add_sub_cancel_left]
theorem Listed.one (F : Bfn) : Listed (fun G => G = F) 1 := ⟨fun _ => F, fun G h => ⟨0, by omega, h.symm⟩⟩
/-- Functions that a code tells apart. -/
theorem Listed.code {A : Type} {P : A → Prop} {Φ : Bfn → Prop} {N : Nat} (f : A → Bfn) (c : A → Nat) (hc : ∀ x, P x → c x < N) (same : ∀ x y, P x → P y → c x = c y → f x = f y) (h : ∀ G, Φ G → ∃ x, P x ∧ f x = G) : Listed Φ N := by
  classical
  refine ⟨fun i => if h : ∃ x, P x ∧ c x = i then f h.choose else fun _ => false, fun G hG => ?_⟩
  obtain ⟨x, px, rfl⟩ := h G hG
  refine ⟨c x, hc x px, ?_⟩
  have ex : ∃ y, P y ∧ c y = c x := ⟨x, px, rfl⟩
  show (if h : ∃ y, P y ∧ c y = c x then f h.choose else _) = _
  rw [dif_pos ex]
  exact same _ _ ex.choose_spec.1 px ex.choose_spec.2

namespace Mgr

/-- M' has what M has and new nodes of functions of Φ. -/
structure Adds (M M' : Mgr) (Φ : Bfn → Prop) : Prop where
  wf : M'.WF
  ext : Ext M M'
  new : ∀ i, M.nodes.length ≤ i → i < M'.nodes.length → M'.stored i ∧ Φ (M'.sem i)

theorem Adds.refl {M : Mgr} (h : M.WF) (Φ : Bfn → Prop) : Adds M M Φ := ⟨h, .refl M, fun i h1 h2 => by omega⟩
theorem Adds.mono {M M' : Mgr} {Φ Ψ : Bfn → Prop} (h : Adds M M' Φ) (i : ∀ G, Φ G → Ψ G) : Adds M M' Ψ := ⟨h.wf, h.ext, fun j h1 h2 => ⟨(h.new j h1 h2).1, i _ (h.new j h1 h2).2⟩⟩
theorem Adds.trans {M M' M'' : Mgr} {Φ : Bfn → Prop} (h : Adds M M' Φ) (h' : Adds M' M'' Φ) : Adds M M'' Φ :=
  ⟨h'.wf, h.ext.trans h'.ext, fun i h1 h2 => by
    rcases Nat.lt_or_ge i M'.nodes.length with hi | hi
    · obtain ⟨s, p⟩ := h.new i h1 hi
      refine ⟨h'.ext.stored s, ?_⟩
      have e : M''.sem i = M'.sem i := funext fun a => h'.ext.sem h.wf s a
      rw [e]; exact p
    · exact h'.new i hi h2⟩

theorem Adds.len {M M' : Mgr} {Φ : Bfn → Prop} {N : Nat} (h : Adds M M' Φ) (l : Listed Φ N) : M'.nodes.length ≤ M.nodes.length + N := by
  obtain ⟨e, he⟩ := l
  have ex : ∀ i, ∃ j, M.nodes.length ≤ i → i < M'.nodes.length → j < N ∧ e j = M'.sem i := fun i => by
    by_cases hi : M.nodes.length ≤ i ∧ i < M'.nodes.length
    · obtain ⟨j, hj, ej⟩ := he _ (h.new i hi.1 hi.2).2
      exact ⟨j, fun _ _ => ⟨hj, ej⟩⟩
    · exact ⟨0, fun a b => (hi ⟨a, b⟩).elim⟩
  obtain ⟨c, hc⟩ := Classical.axiomOfChoice ex
  have hnd : ((List.range (M'.nodes.length - M.nodes.length)).map (fun i => c (M.nodes.length + i))).Nodup := by
    rw [List.nodup_iff_pairwise_ne, List.pairwise_map]
    have hr : (List.range (M'.nodes.length - M.nodes.length)).Nodup := List.nodup_range
    rw [List.nodup_iff_pairwise_ne] at hr
    refine hr.imp_of_mem (fun {x y} hx hy hne q => hne ?_)
    simp only [List.mem_range] at hx hy
    obtain ⟨_, e1⟩ := hc (M.nodes.length + x) (by omega) (by omega)
    obtain ⟨_, e2⟩ := hc (M.nodes.length + y) (by omega) (by omega)
    have s1 := (h.new (M.nodes.length + x) (by omega) (by omega)).1
    have s2 := (h.new (M.nodes.length + y) (by omega) (by omega)).1
    have := canon h.wf s1 s2 (fun a => by rw [← e1, ← e2, q])
    omega
  have := nodup_length _ (List.range N) hnd (fun x hx => by
    simp only [List.mem_map, List.mem_range] at hx ⊢
    obtain ⟨i, hi, rfl⟩ := hx
    exact (hc (M.nodes.length + i) (by omega) (by omega)).1)
  simp only [List.length_map, List.length_range] at this
  omega

/-- The cofactors of F. -/
def Cof (M : Mgr) (F : Bfn) (G : Bfn) : Prop := ∃ d a, G = fun b => F (M.mix d a b)
theorem mix_zero (M : Mgr) (a b : Nat → Bool) : M.mix 0 a b = b := by funext v; unfold mix; rw [if_neg (by omega)]
theorem Cof.self (M : Mgr) (F : Bfn) : M.Cof F F := ⟨0, fun _ => false, by funext b; rw [mix_zero]⟩

theorem build_adds {k : Nat} {M : Mgr} (h : M.WF) (hk : k ≤ M.n) {F : Bfn} (hF : M.Reads (M.n - k) F) : Adds M (build k M F).1 (M.Cof F) := by
  have s := build_spec k M h hk F hF
  have hn := build_new k M h hk F hF
  refine ⟨s.wf, s.ext, fun i h1 h2 => ?_⟩
  have r := hn i h1 h2
  obtain ⟨st, _, _⟩ := Reach.spec s.wf s.st r
  obtain ⟨a, ha⟩ := Reach.cof s.wf s.st r
  refine ⟨st, (build k M F).1.depth i, a, funext fun b => ?_⟩
  rw [ha, s.sem, s.ext.mix]

theorem put_adds {M : Mgr} (h : M.WF) {v lo hi : Nat} (hv : v < M.n) (hl : M.stored lo) (hh : M.stored hi) (dl : M.lev v < M.depth lo) (dh : M.lev v < M.depth hi) :
    Adds M (M.put v lo hi).1 (fun G => G = joinF M v lo hi) := by
  have s := put_spec h hv hl hh dl dh
  refine ⟨s.wf, s.ext, fun i h1 h2 => ?_⟩
  by_cases e : lo = hi
  · have : (M.put v lo hi).1 = M := by unfold put; rw [if_pos e]
    rw [this] at h2; omega
  · have := (put_nd (v := v) h e).2.2 i h1 h2
    subst this
    exact ⟨s.st, funext s.sem⟩

theorem join_adds {M : Mgr} (h : M.WF) {v lo hi : Nat} (hv : v < M.n) (hl : M.stored lo) (hh : M.stored hi) : Adds M (M.joinM v lo hi).1 (fun G => M.Cof (joinF M v lo hi) G ∨ G = fun a => a v) := by
  unfold joinM
  by_cases c : M.lev v < M.depth lo ∧ M.lev v < M.depth hi
  · rw [if_pos c]
    exact (put_adds h hv hl hh c.1 c.2).mono (fun G e => .inl (by rw [e]; exact Cof.self M _))
  · rw [if_neg c]
    have d0 := lev_lt_const h hv (f := 0) (by omega)
    have d1 := lev_lt_const h hv (f := 1) (by omega)
    have s := put_spec h hv (.inl (by omega)) (.inl (by omega)) d0 d1
    have ad := (put_adds h hv (.inl (by omega)) (.inl (by omega)) d0 d1).mono (Ψ := fun G => M.Cof (joinF M v lo hi) G ∨ G = fun a => a v) (fun G e => .inr (by
      rw [e]; funext a; unfold joinF; rw [sem_one, sem_zero]; cases a v <;> rfl))
    generalize M.put v 0 1 = b at *
    have hr : b.1.Reads (b.1.n - M.n) (iteF b.1 b.2 hi lo) := iteF_reads s.wf s.st (s.ext.stored hh) (s.ext.stored hl) (by rw [s.ext.n]; omega) (by rw [s.ext.n]; omega) (by rw [s.ext.n]; omega)
    have eF : iteF b.1 b.2 hi lo = joinF M v lo hi := by
      funext a
      unfold iteF joinF
      rw [s.sem, s.ext.sem h hh, s.ext.sem h hl]
      cases a v <;> simp
    refine ad.trans ((build_adds s.wf (by rw [s.ext.n]; omega) hr).mono (fun G g => .inl ?_))
    rw [eF] at g
    obtain ⟨d, a, rfl⟩ := g
    exact ⟨d, a, funext fun x => by rw [s.ext.mix]⟩

end Mgr

/-! ### quantified functions -/
/-- F with the variables of a list quantified. -/
def exQ : List Nat → Bfn → Bfn
  | [], F => F
  | v :: l, F => exQ l fun a => F (Mgr.upd a v false) || F (Mgr.upd a v true)

/-- a with the values of b for the variables of l. -/
def ovr (l : List Nat) (b a : Nat → Bool) : Nat → Bool := fun v => if v ∈ l then b v else a v
theorem exQ_iff : ∀ (l : List Nat) (F : Bfn) (a : Nat → Bool), exQ l F a = true ↔ ∃ b, F (ovr l b a) = true
  | [], F, a => by
    have e : ∀ b, ovr [] b a = a := fun b => funext fun v => by unfold ovr; simp
    simp only [exQ, e]
    exact ⟨fun h => ⟨a, h⟩, fun ⟨_, h⟩ => h⟩
  | v :: l, F, a => by
    simp only [exQ]
    rw [exQ_iff l]
    constructor
    · rintro ⟨b, h⟩
      rw [Bool.or_eq_true] at h
      have key : ∀ x, F (Mgr.upd (ovr l b a) v x) = true → ∃ b, F (ovr (v :: l) b a) = true := fun x hx => by
        refine ⟨Mgr.upd b v x, ?_⟩
        rw [← hx]
        congr 1
        funext u
        unfold ovr Mgr.upd
        by_cases e : u = v
        · simp [e]
        · simp [e]
      rcases h with h | h
      · exact key _ h
      · exact key _ h
    · rintro ⟨b, h⟩
      refine ⟨b, ?_⟩
      have e : ∀ x, b v = x → Mgr.upd (ovr l b a) v x = ovr (v :: l) b a := fun x hx => by
        funext u
        unfold ovr Mgr.upd
        by_cases e : u = v
        · simp [e, hx]
        · simp [e]
      cases hb : b v with
      | false => rw [e _ hb, h]; rfl
      | true => rw [e _ hb, h]; simp
/-- A variable that is not quantified. -/
theorem exQ_free {l : List Nat} {v : Nat} (hv : v ∉ l) (F : Bfn) (x : Bool) (a : Nat → Bool) : exQ l (fun b => F (Mgr.upd b v x)) a = exQ l F (Mgr.upd a v x) := by
  rw [Bool.eq_iff_iff, exQ_iff, exQ_iff]
  have e : ∀ b, Mgr.upd (ovr l b a) v x = ovr l b (Mgr.upd a v x) := fun b => by
    funext u
    unfold ovr Mgr.upd
    by_cases e : u = v
    · simp [e, hv]
    · simp [e]
  simp only [e]
/-- A variable that is. -/
theorem exQ_split {l : List Nat} {v : Nat} (hv : v ∈ l) (F : Bfn) (a : Nat → Bool) : exQ l F a = (exQ l (fun b => F (Mgr.upd b v false)) a || exQ l (fun b => F (Mgr.upd b v true)) a) := by
  rw [Bool.eq_iff_iff, Bool.or_eq_true, exQ_iff, exQ_iff, exQ_iff]
  have e : ∀ (b : Nat → Bool) (x : Bool), Mgr.upd (ovr l b a) v x = ovr l (Mgr.upd b v x) a := fun b x => by
    funext u
    unfold ovr Mgr.upd
    by_cases e : u = v
    · simp [e, hv]
    · simp [e]
  simp only [e]
  constructor
  · rintro ⟨b, h⟩
    have e2 : ∀ x, b v = x → Mgr.upd b v x = b := fun x hx => by
      funext u
      unfold Mgr.upd
      by_cases e : u = v
      · simp [e, hx]
      · simp [e]
    cases hb : b v with
    | false => exact .inl ⟨b, by rw [e2 _ hb]; exact h⟩
    | true => exact .inr ⟨b, by rw [e2 _ hb]; exact h⟩
  · rintro (⟨b, h⟩ | ⟨b, h⟩)
    · exact ⟨_, h⟩
    · exact ⟨_, h⟩
/-- Nothing that is read is quantified. -/
theorem exQ_none {l : List Nat} {F : Bfn} (h : ∀ a b, (∀ v, v ∉ l → a v = b v) → F a = F b) : exQ l F = F := by
  funext a
  rw [Bool.eq_iff_iff, exQ_iff]
  have e : ∀ b, F (ovr l b a) = F a := fun b => h _ _ (fun v hv => by unfold ovr; rw [if_neg hv])
  simp only [e]
  exact ⟨fun ⟨_, h⟩ => h, fun h => ⟨a, h⟩⟩
theorem exQ_const (l : List Nat) (c : Bool) : exQ l (fun _ => c) = fun _ => c := exQ_none (fun _ _ _ => rfl)
theorem exQ_reads {M : Mgr} {d : Nat} {l : List Nat} {F : Bfn} (h : M.Reads d F) : M.Reads d (exQ l F) := fun a b hab => by
  rw [Bool.eq_iff_iff, exQ_iff, exQ_iff]
  have e : ∀ c, F (ovr l c a) = F (ovr l c b) := fun c => h _ _ (fun v h1 h2 => by unfold ovr; split; rfl; exact hab v h1 h2)
  simp only [e]
/-! ### the product -/
namespace Mgr
/-- The functions of the nodes that a product makes. -/
def ProF (M : Mgr) (l : List Nat) (F : Bfn) (G : Bfn) : Prop := ∃ d' a', M.Cof (exQ l fun x => F (M.mix d' a' x)) G

theorem ProF.ext {M M' : Mgr} (e : Ext M M') {l : List Nat} {F G : Bfn} : M'.ProF l F G ↔ M.ProF l F G := by
  unfold ProF Cof
  simp only [e.mix]
theorem ProF.self (M : Mgr) (l : List Nat) (F : Bfn) {G : Bfn} (h : M.Cof (exQ l F) G) : M.ProF l F G := by
  refine ⟨0, fun _ => false, ?_⟩
  have e : (fun x => F (M.mix 0 (fun _ => false) x)) = F := funext fun x => by rw [mix_zero]
  rw [e]; exact h
/-- The families of the cofactors are parts of the family. -/
theorem ProF.upd {M : Mgr} (h : M.WF) {l : List Nat} {F G : Bfn} {v : Nat} {x : Bool} (hv : v < M.n) (hF : M.Reads (M.lev v) F) (g : M.ProF l (fun a => F (Mgr.upd a v x)) G) : M.ProF l F G := by
  obtain ⟨d', a', g⟩ := g
  by_cases hd : M.lev v < d'
  · refine ⟨d', Mgr.upd a' v x, ?_⟩
    have e : (fun y => F (M.mix d' (Mgr.upd a' v x) y)) = fun y => F (Mgr.upd (M.mix d' a' y) v x) := funext fun y => by
      congr 1; funext u
      unfold mix Mgr.upd
      by_cases e : u = v
      · subst e; simp [hd]
      · simp only [e, if_false]
    rw [e]; exact g
  · refine ⟨M.lev v + 1, Mgr.upd a' v x, ?_⟩
    have e : (fun y => F (M.mix (M.lev v + 1) (Mgr.upd a' v x) y)) = fun y => F (Mgr.upd (M.mix d' a' y) v x) := funext fun y => by
      refine hF _ _ (fun u hu hlu => ?_)
      unfold mix Mgr.upd
      by_cases e : u = v
      · subst e; simp
      · have : M.lev u ≠ M.lev v := fun q => e (lev_inj h hu hv q)
        have n1 : ¬ M.lev u < M.lev v + 1 := by omega
        have n2 : ¬ M.lev u < d' := by omega
        simp only [n1, n2, e, if_false]
    rw [e]; exact g
end Mgr

end Go.Proofs.YtdgnbbmgcgfibaaGreatDoor

namespace Go.Proofs.YtdgnbbmgcgfibaaGreatDoor
open Go.RowKit

set_option maxHeartbeats 400000 in
theorem Node_ok {p : Nat} {M : Mgr} {L : Lay} (f : Nat) {w : World} (R : Rep w p M L) (hf : M.stored f) :
    Calls Tryz.prog 107 #[ptr p, .int .i64 (f : Int)] w fun e w' => e = .returned (.tuple #[.int .i64 (M.nd f).1, .int .i64 ((M.nd f).2.1 : Int), .int .i64 ((M.nd f).2.2 : Int)]) ∧ Kp No w w' := by
  obtain ⟨F, raw, _⟩ := R.raw
  have hm := maxLen_val
  have hlt := M.stored_lt R.wf hf
  obtain ⟨bn, cn, hsn, hcn, hcm, hnd⟩ := raw.node_cells R.wf
  obtain ⟨n0, n1, n2⟩ := hnd f hlt
  have c2 := raw.c2
  rw [hsn] at c2
  have hle2 : M.nodes.length ≤ 9223372036854775807 := by omega
  have b1 : (f : Int) < M.nodes.length := by omega
  have b2 : ¬ (M.nodes.length : Int) ≤ (f : Int) := by omega
  have b0 : (0 : Int) ≤ (f : Int) := by omega
  have hbn := World.block_lt_of_cell? _ _ n0
  have plt := raw.plt
  unfold natV at n1 n2
  clear raw R hm hsn hnd hcn hcm hf hlt
  generalize M.nd f = x at *
  generalize M.nodes.length = nn at *
  go_enter Tryz.func107, Tryz.ntmps107
  go_wp2
  go_quiet (fail)
  go_wp2
  refine bodyPost_ret (v := .tuple #[.int .i64 x.1, .int .i64 (x.2.1 : Int), .int .i64 (x.2.2 : Int)]) (by simp [results, Tryz.results107, go_sem]) rfl ⟨rfl, (Kp.alloc _).trans_no (Kp.drewN _)⟩

theorem Join_ok {p : Nat} {M : Mgr} {L : Lay} (v lo hi : Nat) {w : World} (R : Rep w p M L) (hv : v < M.n) (hl : M.stored lo) (hh : M.stored hi) (hb : (M.joinM v lo hi).1.nodes.length ≤ big) :
    Calls Tryz.prog 110 #[ptr p, .int .i64 (v : Int), .int .i64 (lo : Int), .int .i64 (hi : Int)] w (Ret p L w (M.joinM v lo hi).1 (.int .i64 (M.joinM v lo hi).2)) := by
  have HC := Lib.hid (join_ok v lo hi R hv hl hh hb)
  have SD := Lib.hid (Sd.start R)
  clear R hv hl hh hb
  generalize M.joinM v lo hi = B at *
  go_enter Tryz.func110, Tryz.ntmps110
  go_wp2_with fail
  refine HC.out.mono ?_
  intro e x h
  obtain ⟨rfl, L2, s2⟩ := SD.out.step h
  clear h
  go_wp2_with fail
  go_ret
  exact s2.ret _

theorem Apply_ok {p : Nat} {M : Mgr} {L : Lay} (f g h : Nat) {w : World} (R : Rep w p M L) (sf : M.stored f) (sg : M.stored g) (sh : M.stored h) (hb : (Mgr.build M.n M (iteF M f g h)).1.nodes.length ≤ big) :
    Calls Tryz.prog 108 #[ptr p, .int .i64 (f : Int), .int .i64 (g : Int), .int .i64 (h : Int)] w (Ret p L w (Mgr.build M.n M (iteF M f g h)).1 (.int .i64 (Mgr.build M.n M (iteF M f g h)).2)) := by
  have HC := Lib.hid (ite_ok f g h R sf sg sh hb)
  have SD := Lib.hid (Sd.start R)
  clear R sf sg sh hb
  generalize Mgr.build M.n M (iteF M f g h) = B at *
  go_enter Tryz.func108, Tryz.ntmps108
  go_wp2_with fail
  refine HC.out.mono ?_
  intro e x h
  obtain ⟨rfl, L2, s2⟩ := SD.out.step h
  clear h
  go_wp2_with fail
  go_ret
  exact s2.ret _

/-! ### lists of variables -/
def varsB (n : Nat) (l : List Int) : Bool := l.all fun x => decide (0 ≤ x ∧ x < n)
theorem varsB_true {n : Nat} {l : List Int} : varsB n l = true ↔ ∀ k, k < l.length → 0 ≤ l.getD k 0 ∧ l.getD k 0 < n := by
  unfold varsB
  rw [List.all_eq_true]
  constructor
  · intro h k hk
    have := h (l.getD k 0) (by rw [List.getD_eq_getElem?_getD, List.getElem?_eq_getElem hk]; exact List.getElem_mem hk)
    simpa using this
  · intro h x hx
    obtain ⟨k, hk, rfl⟩ := List.getElem_of_mem hx
    have := h k hk
    rw [List.getD_eq_getElem?_getD, List.getElem?_eq_getElem hk] at this
    simpa using this
theorem varsB_bad {n : Nat} {l : List Int} {k : Nat} (hk : k < l.length) (h : ¬ (0 ≤ l.getD k 0 ∧ l.getD k 0 < n)) : varsB n l = false := by
  cases e : varsB n l
  · rfl
  · exact (h (varsB_true.1 e k hk)).elim
theorem varsB_of {n : Nat} {m : List Nat} (h : ∀ v, v ∈ m → v < n) : varsB n (m.map Int.ofNat) = true := by
  unfold varsB
  rw [List.all_eq_true]
  intro x hx
  obtain ⟨v, hv, rfl⟩ := List.mem_map.1 hx
  have := h v hv
  simp; omega

def VaR (w : World) (n : Nat) (l : List Int) (gk : Nat) (s : Value) (x : World) : Prop := ∃ k, k + gk = l.length ∧ s = .int .i64 (k : Int) ∧ (∀ i, i < k → 0 ≤ l.getD i 0 ∧ l.getD i 0 < n) ∧ w = x

set_option maxRecDepth 100000 in
set_option maxHeartbeats 1000000 in
theorem variables_ok {p : Nat} {M : Mgr} {L : Lay} (l : List Int) (hl : l.length ≤ 1000000) {dv : Value} {w : World} (R : Rep w p M L) (hd : SrcAt w dv 1 l.length (l.map intV)) :
    Calls Tryz.prog 70 #[ptr p, dv] w fun e w' => e = .returned (.bool (varsB M.n l)) ∧ w = w' := by
  have VARS := Lib.hid (vars_ok R)
  unfold natV at VARS
  have HD := Lib.hid hd
  obtain ⟨ao, cp, rfl⟩ := hd.form
  obtain ⟨ok, hok⟩ : ∃ b, varsB M.n l = b := ⟨_, rfl⟩
  rw [hok]
  have OK := Lib.hid hok
  clear hok hd R
  generalize M.n = n at *
  have hli : (l.length : Int) ≤ 1000000 := by omega
  go_enter Tryz.func70, Tryz.ntmps70
  go_wp2_with fail
  go_loopg [9] l.length (fun gk s x => VaR w n l gk s x)
  case atStart => exact ⟨0, by omega, rfl, fun i h => by omega, rfl⟩
  case round =>
    obtain ⟨k, hk, rfl, hin, hw⟩ := hrel
    subst hw
    by_cases hlt : k < l.length
    · obtain ⟨g1, o1, c1, hv1, _, hcell⟩ := HD.out.cellAt (by omega)
      have hv2 : ao = some ⟨g1, o1, none⟩ := by injection hv1
      subst hv2
      have hc := hcell k (intV (l.getD k 0)) (by simp [hlt])
      unfold intV at hc
      have hlti : (k : Int) < l.length := by omega
      have HK := Lib.hid hk
      clear hcell hv1 hk
      by_cases h0 : 0 ≤ l.getD k 0
      · by_cases h1 : l.getD k 0 < n
        · have JN : Hid (VaR w n l (l.length - (k + 1)) (.int .i64 ((k + 1 : Nat) : Int)) w) := Lib.hid ⟨k + 1, by omega, rfl, fun i hi => by
            by_cases e : i = k
            · subst e; exact ⟨h0, h1⟩
            · exact hin i (by omega), rfl⟩
          have h1' : ¬ (n : Int) ≤ l.getD k 0 := by omega
          clear hin
          generalize l.getD k 0 = y at *
          go_wp2_with (first | ((with_reducible refine VARS.out.mono ?_); rintro e w' ⟨rfl, rfl⟩))
          go_roundg (l.length - (k + 1))
          case measure => have := HK.out; omega
          case rel => exact JN.out
        · obtain rfl : ok = false := OK.out.symm.trans (varsB_bad hlt (fun h => h1 h.2))
          have h1' : (n : Int) ≤ l.getD k 0 := by omega
          clear hin
          generalize l.getD k 0 = y at *
          go_wp2_with (first | ((with_reducible refine VARS.out.mono ?_); rintro e w' ⟨rfl, rfl⟩))
          go_ret
          exact ⟨rfl, rfl⟩
      · obtain rfl : ok = false := OK.out.symm.trans (varsB_bad hlt (fun h => h0 h.1))
        have h0' : l.getD k 0 < 0 := by omega
        clear hin
        generalize l.getD k 0 = y at *
        go_wp2_with (first | ((with_reducible refine VARS.out.mono ?_); rintro e w' ⟨rfl, rfl⟩))
        go_ret
        exact ⟨rfl, rfl⟩
    · obtain rfl : k = l.length := by omega
      obtain rfl : ok = true := OK.out.symm.trans (varsB_true.2 hin)
      have hge : ¬ (l.length : Int) < l.length := by omega
      clear hin hk hlt
      go_wp2_with fail
      go_ret
      exact ⟨rfl, rfl⟩

/-! ### 'levels' -/
theorem made_zero (n : Nat) : (madeCells (Value.int .i64 0).cells (n * 1)).toList = List.replicate n (.int .i64 0) := by
  apply List.ext_getElem?
  intro j
  simp only [madeCells, Nat.mul_one, Array.getElem?_toList, List.getElem?_replicate]
  by_cases hj : j < n
  · simp [hj, Value.cells, Nat.mod_one]
  · simp [hj]
def LvRow (M : Mgr) (i : Nat) : List Value := (List.range M.n).map fun v => .int .i64 (if M.lev v < i then (M.lev v : Int) else 0)
theorem LvRow_zero (M : Mgr) : LvRow M 0 = List.replicate M.n (.int .i64 0) := by
  apply List.ext_getElem?
  intro j
  simp only [LvRow, List.getElem?_map, List.getElem?_replicate]
  by_cases hj : j < M.n
  · simp [hj]
  · simp [hj]
theorem LvRow_set {M : Mgr} (h : M.WF) {i : Nat} (hi : i < M.n) : (LvRow M i).set (M.ord i) (.int .i64 (i : Int)) = LvRow M (i + 1) := by
  obtain ⟨o1, o2⟩ := h.lo_ i hi
  apply List.ext_getElem?
  intro j
  by_cases hj : j < M.n
  · by_cases e : M.ord i = j
    · subst e
      simp [LvRow, hj, o2]
    · have hne : M.lev j ≠ i := fun x => e (by rw [← x, (h.ol j hj).2])
      have : (M.lev j < i + 1) ↔ M.lev j < i := by omega
      simp [LvRow, hj, e, this]
  · simp [LvRow, hj]
theorem LvRow_done {M : Mgr} (h : M.WF) : LvRow M M.n = (List.range M.n).map fun v => natV (M.lev v) := by
  unfold LvRow
  refine List.map_congr_left fun v hv => ?_
  have := (h.ol v (List.mem_range.1 hv)).1
  rw [if_pos this]; rfl
structure LvJ (w : World) (M : Mgr) (g i : Nat) (x : World) : Prop where
  row : x.ownsRow w.heap.size 3 1 (.slice (some ⟨g, 0, none⟩) M.n M.n) M.n (LvRow M i)
  kp : Kp No w x
theorem LvJ.ge {w x : World} {M : Mgr} {g i : Nat} (j : LvJ w M g i x) : w.heap.size ≤ g ∧ g < x.heap.size := j.row.lt g rfl
theorem LvJ.put {w x : World} {M : Mgr} {g i : Nat} (h : M.WF) (j : LvJ w M g i x) (hi : i < M.n) : LvJ w M g (i + 1) (x.setCell ⟨g, M.ord i, none⟩ (.int .i64 (i : Int))) := by
  refine ⟨?_, ?_⟩
  · have := ownsRow_put j.row (M.ord i) (.int .i64 (i : Int))
    rw [LvRow_set h hi] at this
    exact this
  · exact j.kp.trans (A' := fun x => x = g) (fun x e => .inr (by rw [e]; exact j.ge.1)) ((Kp.setCell _ _).mono (fun _ _ e => e))
theorem LvJ.cell {w x : World} {M : Mgr} {g i : Nat} (j : LvJ w M g i x) {v : Nat} (hv : v < M.n) : ∃ u, x.cell? ⟨g, v, none⟩ = some u ∧ x.frozen? ⟨g, v, none⟩ = false := by
  obtain ⟨g', c, hv', _, _, _, hc, hz⟩ := ownsRow_open j.row (by omega)
  cases hv'
  exact ⟨_, hc v (.int .i64 (if M.lev v < i then (M.lev v : Int) else 0)) (by simp [LvRow, hv]), hz v⟩
def LvR (w : World) (M : Mgr) (g : Nat) (w2 : World) (gk : Nat) (s : Value) (x : World) : Prop := ∃ i, i + gk = M.n ∧ s = .int .i64 (i : Int) ∧ LvJ w M g i x ∧ Kp (fun b => b = g) w2 x
def LvPost (w : World) (M : Mgr) (e : Ending) (w' : World) : Prop := ∃ g, e = .returned (.slice (some ⟨g, 0, none⟩) M.n M.n) ∧ w'.ownsRow w.heap.size 3 1 (.slice (some ⟨g, 0, none⟩) M.n M.n) M.n ((List.range M.n).map fun v => natV (M.lev v)) ∧ Kp No w w'

set_option maxRecDepth 100000 in
set_option maxHeartbeats 1000000 in
theorem levels_ok {p : Nat} {M : Mgr} {L : Lay} {w : World} (R : Rep w p M L) (hn : M.n ≤ 256) : Calls Tryz.prog 106 #[ptr p] w (LvPost w M) := by
  obtain ⟨i0, hi0, hz0, hz1, hz2⟩ := info_parts info_int
  have VARS := Lib.hid (vars_ok R)
  unfold natV at VARS
  obtain ⟨w1, hmk, r1, r2⟩ := run_make_full (P := Tryz.prog) w w.heap.size 94 3 i0 _ 1 Tryz.underlying94 hi0 hz0 hz1 .i64 .i64 M.n (by rw [hz2]; omega) (by rw [maxLen_val]; omega) (Nat.le_refl _)
  rw [made_zero, ← LvRow_zero] at r1
  have k1 : Kp No w w1 := (Kp.grown r2).mono (fun k _ e => by cases e)
  have J1 : Hid (LvJ w M w.heap.size 0 w1) := Lib.hid ⟨r1, k1⟩
  have ORD := Lib.hid (Order_ok (R.no k1) hn)
  have WF := Lib.hid R.wf
  have HN : Hid (M.order.length = M.n) := Lib.hid rfl
  have hni : (M.n : Int) ≤ 256 := by omega
  have hwg : w.heap.size < w1.heap.size := J1.out.ge.2
  clear r1 r2 R hn
  go_enter Tryz.func106, Tryz.ntmps106
  go_wp2_with fail
  refine VARS.out.mono ?_
  rintro e w' ⟨rfl, rfl⟩
  go_wp2_with fail
  refine ORD.out.mono ?_
  rintro e w2 ⟨v, rfl, orow, k2⟩
  have J2 : Hid (LvR w M w.heap.size w2 M.n (.int .i64 0) w2) := Lib.hid ⟨0, by omega, rfl, ⟨ownsRow_kp J1.out.row k2 (fun _ _ z => z), k1.trans_no k2⟩, Kp.refl _ _⟩
  have OROW : Hid (∀ y, Kp (fun b => b = w.heap.size) w2 y → SrcAt y v 1 M.n (M.order.map natV)) := Lib.hid (fun y ky => by
    rw [← HN.out]
    exact SrcAt.of_row (ownsRow_kp orow ky (fun b hb e => by have := (orow.lt b hb).1; omega)))
  rw [HN.out] at orow
  obtain ⟨ao, cp, rfl⟩ := (SrcAt.of_row orow).form
  clear orow k2 ORD hmk VARS J1
  generalize hnn : M.n = nn at *
  have HNN := Lib.hid hnn
  clear hnn
  go_wp2_with fail
  go_loopg [12] nn (fun gk s x => LvR w M w.heap.size w2 gk s x)
  case atStart => exact J2.out
  case round =>
    clear J2
    obtain ⟨i, hi, rfl, j, kx⟩ := hrel
    rw [HNN.out] at hi
    by_cases hlt : i < nn
    · obtain ⟨g1, o1, c1, hv1, _, hcell⟩ := (OROW.out wr kx).cellAt (by omega)
      have hv2 : ao = some ⟨g1, o1, none⟩ := by injection hv1
      subst hv2
      have him : i < M.n := by rw [HNN.out]; exact hlt
      have hil : i < M.order.length := him
      have hc := hcell i (natV (M.ord i)) (by simp [Mgr.ord, hil])
      unfold natV at hc
      obtain ⟨o1', o2'⟩ := WF.out.lo_ i him
      obtain ⟨u, cu, zu⟩ := j.cell o1'
      have JN : Hid (LvR w M w.heap.size w2 (nn - (i + 1)) (.int .i64 ((i + 1 : Nat) : Int)) (wr.setCell ⟨w.heap.size, M.ord i, none⟩ (.int .i64 (i : Int)))) := Lib.hid ⟨i + 1, by rw [HNN.out]; omega, rfl, j.put WF.out him, kx.trans (A' := fun b => b = w.heap.size) (fun b e => .inl e) ((Kp.setCell _ _).mono (fun _ _ e => e))⟩
      have hlti : (i : Int) < nn := by omega
      have ho : (M.ord i : Int) < nn := by rw [HNN.out] at o1'; omega
      have hwlt : w.heap.size < wr.heap.size := j.ge.2
      have HI := Lib.hid hi
      clear hcell hv1 hi j kx o1' o2' him hil
      generalize M.ord i = oi at *
      go_wp2_with fail
      go_roundg (nn - (i + 1))
      case measure => have := HI.out; omega
      case rel => exact JN.out
    · obtain rfl : i = nn := by omega
      have FIN : Hid (LvPost w M (.returned (.slice (some ⟨w.heap.size, 0, none⟩) i i)) wr) := Lib.hid (by
        refine ⟨w.heap.size, by rw [HNN.out], ?_, j.kp⟩
        have := j.row
        have e : LvRow M i = LvRow M M.n := by rw [HNN.out]
        rw [e, LvRow_done WF.out] at this
        exact this)
      have hge : ¬ (i : Int) < i := by omega
      clear hi j kx hlt
      go_wp2_with fail
      go_ret
      exact FIN.out

/-! ### 'repeats' -/
def InRow (n : Nat) (l : List Nat) : List Value := (List.range n).map fun v => .bool (decide (v ∈ l))
theorem InRow_nil (n : Nat) : InRow n [] = List.replicate n (.bool false) := by
  apply List.ext_getElem?
  intro j
  by_cases hj : j < n
  · simp [InRow, hj]
  · simp [InRow, hj]
theorem InRow_set (n : Nat) (l : List Nat) (x : Nat) : (InRow n l).set x (.bool true) = InRow n (l ++ [x]) := by
  apply List.ext_getElem?
  intro j
  by_cases hj : j < n
  · by_cases e : x = j
    · subst e; simp [InRow, hj]
    · have e' : ¬ j = x := fun h => e h.symm
      simp [InRow, hj, e, e']
  · simp [InRow, hj]
structure InJ (w : World) (n g : Nat) (l : List Nat) (x : World) : Prop where
  row : x.ownsRow w.heap.size 4 1 (.slice (some ⟨g, 0, none⟩) n n) n (InRow n l)
  kp : Kp No w x
theorem InJ.ge {w x : World} {n g : Nat} {l : List Nat} (j : InJ w n g l x) : w.heap.size ≤ g ∧ g < x.heap.size := j.row.lt g rfl
theorem InJ.put {w x : World} {n g : Nat} {l : List Nat} (j : InJ w n g l x) (v : Nat) : InJ w n g (l ++ [v]) (x.setCell ⟨g, v, none⟩ (.bool true)) := by
  refine ⟨?_, ?_⟩
  · have := ownsRow_put j.row v (.bool true)
    rw [InRow_set] at this
    exact this
  · exact j.kp.trans (A' := fun x => x = g) (fun x e => .inr (by rw [e]; exact j.ge.1)) ((Kp.setCell _ _).mono (fun _ _ e => e))
theorem InJ.cell {w x : World} {n g : Nat} {l : List Nat} (j : InJ w n g l x) {v : Nat} (hv : v < n) : x.cell? ⟨g, v, none⟩ = some (.bool (decide (v ∈ l))) ∧ x.frozen? ⟨g, v, none⟩ = false := by
  obtain ⟨g', c, hv', _, _, _, hc, hz⟩ := ownsRow_open j.row (by omega)
  cases hv'
  exact ⟨hc v _ (by simp [InRow, hv]), hz v⟩
theorem InJ.start (w : World) (n : Nat) (hn : n ≤ 256) : ∃ w1, (Instr.makeSlice 72 (.int .i64 (n : Int)) (.int .i64 (n : Int))).run Tryz.prog w = .ok (.slice (some ⟨w.heap.size, 0, none⟩) n n) w1 ∧ Hid (InJ w n w.heap.size [] w1) := by
  obtain ⟨j0, hj0, hy0, hy1, hy2⟩ := info_parts info_bool
  obtain ⟨w1, hrun, r1, r2⟩ := run_make_full (P := Tryz.prog) w w.heap.size 72 4 j0 _ 1 Tryz.underlying72 hj0 hy0 hy1 .i64 .i64 n (by rw [hy2]; omega) (by rw [maxLen_val]; omega) (Nat.le_refl _)
  rw [made_false, ← InRow_nil] at r1
  exact ⟨w1, hrun, Lib.hid ⟨r1, (Kp.grown r2).mono (fun k _ e => by cases e)⟩⟩
def RpR (w : World) (n g : Nat) (l : List Nat) (gk : Nat) (s : Value) (x : World) : Prop := ∃ i, i + gk = l.length ∧ s = .int .i64 (i : Int) ∧ InJ w n g (l.take i) x ∧ (l.take i).Nodup

set_option maxRecDepth 100000 in
set_option maxHeartbeats 1000000 in
theorem repeats_ok {p : Nat} {M : Mgr} {L : Lay} (l : List Nat) (hl : l.length ≤ 1000000) (hlv : ∀ v, v ∈ l → v < M.n) {dv : Value} {w : World} (R : Rep w p M L) (hn : M.n ≤ 256) (hd : SrcAt w dv 1 l.length (l.map natV)) (b : Bool) (hb : b = true ↔ ¬ l.Nodup) :
    Calls Tryz.prog 111 #[ptr p, dv] w fun e w' => e = .returned (.bool b) ∧ Kp No w w' := by
  have VARS := Lib.hid (vars_ok R)
  unfold natV at VARS
  obtain ⟨w1, hmk, J1⟩ := InJ.start w M.n hn
  have HD : Hid (∀ y, Kp No w y → SrcAt y dv 1 l.length (l.map natV)) := Lib.hid (fun y ky => hd.no ky)
  obtain ⟨ao, cp, rfl⟩ := hd.form
  have HB := Lib.hid hb
  have LV := Lib.hid hlv
  have hli : (l.length : Int) ≤ 1000000 := by omega
  have hni : (M.n : Int) ≤ 256 := by omega
  have J0 : Hid (RpR w M.n w.heap.size l l.length (.int .i64 0) w1) := Lib.hid ⟨0, by omega, rfl, J1.out, List.nodup_nil⟩
  clear R hd hb hlv J1 hn
  generalize M.n = n at *
  go_enter Tryz.func111, Tryz.ntmps111
  go_wp2_with fail
  refine VARS.out.mono ?_
  rintro e w' ⟨rfl, rfl⟩
  go_wp2_with fail
  clear hmk VARS
  go_loopg [13] l.length (fun gk s x => RpR w n w.heap.size l gk s x)
  case atStart => exact J0.out
  case round =>
    clear J0
    obtain ⟨i, hi, rfl, j, nd⟩ := hrel
    by_cases hlt : i < l.length
    · obtain ⟨g1, o1, c1, hv1, _, hcell⟩ := (HD.out wr j.kp).cellAt (by omega)
      have hv2 : ao = some ⟨g1, o1, none⟩ := by injection hv1
      subst hv2
      have hc := hcell i (natV (l.getD i 0)) (by simp [hlt])
      unfold natV at hc
      have hmem : l.getD i 0 ∈ l := by rw [List.getD_eq_getElem?_getD, List.getElem?_eq_getElem hlt]; exact List.getElem_mem hlt
      have hvn := LV.out _ hmem
      obtain ⟨cu, zu⟩ := j.cell hvn
      have hlti : (i : Int) < l.length := by omega
      have ho : (l.getD i 0 : Int) < n := by omega
      have hwlt : w.heap.size < wr.heap.size := j.ge.2
      have HI := Lib.hid hi
      have et : l.take (i + 1) = l.take i ++ [l.getD i 0] := by rw [List.take_succ_eq_append_getElem hlt]; simp [hlt]
      by_cases hin : l.getD i 0 ∈ l.take i
      · have KW := Lib.hid j.kp
        obtain rfl : b = true := HB.out.2 (fun h => by
          have h2 : (l.take (i + 1)).Nodup := h.sublist (List.take_sublist _ _)
          rw [et, List.nodup_append] at h2
          exact h2.2.2 _ hin _ (by simp) rfl)
        rw [decide_eq_true hin] at cu
        clear hcell hv1 hi j nd et hin hmem hvn
        generalize l.getD i 0 = y at *
        go_wp2_with fail
        go_ret
        exact ⟨rfl, KW.out⟩
      · have JN : Hid (RpR w n w.heap.size l (l.length - (i + 1)) (.int .i64 ((i + 1 : Nat) : Int)) (wr.setCell ⟨w.heap.size, l.getD i 0, none⟩ (.bool true))) := Lib.hid ⟨i + 1, by omega, rfl, by rw [et]; exact j.put _, by
          rw [et, List.nodup_append]
          refine ⟨nd, by simp, fun a ha c hc e => ?_⟩
          rw [List.mem_singleton] at hc
          rw [e, hc] at ha
          exact hin ha⟩
        rw [decide_eq_false hin] at cu
        clear hcell hv1 hi j nd et hin hmem hvn
        generalize l.getD i 0 = y at *
        go_wp2_with fail
        go_roundg (l.length - (i + 1))
        case measure => have := HI.out; omega
        case rel => exact JN.out
    · obtain rfl : i = l.length := by omega
      rw [List.take_length] at nd
      obtain rfl : b = false := by
        cases hb : b
        · rfl
        · exact (HB.out.1 hb nd).elim
      have KW := Lib.hid j.kp
      have hge : ¬ (l.length : Int) < l.length := by omega
      clear hi j nd hlt
      go_wp2_with fail
      go_ret
      exact ⟨rfl, KW.out⟩

end Go.Proofs.YtdgnbbmgcgfibaaGreatDoor

namespace Go.Proofs.YtdgnbbmgcgfibaaGreatDoor
open Go.RowKit

/-- What a memo says goes on to hold. -/
def IOk (bs : Nat) (I : Mgr → World → Prop) : Prop := ∀ (M M' : Mgr) (w w' : World) (A : Nat → Prop), M.WF → Mgr.Ext M M' → Kp A w w' → ¬ A bs → I M w → I M' w'

/-- The manager at p, a memo at bs, blocks that stay. -/
structure Sk (w0 : World) (p : Nat) (L0 : Lay) (bs : Nat) (X : List (Nat × Obj)) (I : Mgr → World → Prop) (w : World) (M : Mgr) (L : Lay) : Prop where
  rep : Rep w p M L
  kp : Kp (fun x => L0.at p x ∨ x = bs) w0 w
  fr : Fresh (L0.at p) (L.at p) w0
  memo : I M w
  lt : bs < w.heap.size
  nb : ¬ L.at p bs
  keep : ∀ b o, (b, o) ∈ X → w.heap[b]? = some o ∧ ¬ L.at p b ∧ b ≠ bs

section
variable {w0 w w' : World} {p bs : Nat} {L0 L L' : Lay} {X : List (Nat × Obj)} {I : Mgr → World → Prop} {M M' : Mgr}
theorem Sk.no (ok : IOk bs I) (s : Sk w0 p L0 bs X I w M L) (h : Kp No w w') : Sk w0 p L0 bs X I w' M L :=
  ⟨s.rep.no h, s.kp.trans_no h, s.fr, ok M M w w' No s.rep.wf (.refl M) h (fun x => x) s.memo, Nat.lt_of_lt_of_le s.lt h.size, s.nb, fun b o hb => by
    obtain ⟨h1, h2, h3⟩ := s.keep b o hb
    exact ⟨by rw [h.block b (heap_lt h1) (fun x => x)]; exact h1, h2, h3⟩⟩
theorem Sk.step (ok : IOk bs I) {v : Value} {e : Ending} (s : Sk w0 p L0 bs X I w M L) (x : Mgr.Ext M M') (h : Ret p L w M' v e w') : e = .returned v ∧ ∃ L', Sk w0 p L0 bs X I w' M' L' := by
  obtain ⟨L', he, rep, k, f⟩ := h
  refine ⟨he, L', rep, s.kp.trans (A' := fun x => L.at p x ∨ x = bs) (fun y hy => ?_) (k.mono (fun y _ hy => .inl hy)), fun y hy => ?_, ok M M' w w' _ s.rep.wf x k s.nb s.memo, Nat.lt_of_lt_of_le s.lt k.size, fun hb => ?_, fun b o hb => ?_⟩
  · rcases hy with hy | hy
    · rcases s.fr y hy with h | h
      · exact .inl (.inl h)
      · exact .inr h
    · exact .inl (.inr hy)
  · rcases f y hy with h | h
    · exact s.fr y h
    · right; have := s.kp.size; omega
  · rcases f bs hb with h | h
    · exact s.nb h
    · have := s.lt; omega
  · obtain ⟨h1, h2, h3⟩ := s.keep b o hb
    refine ⟨by rw [k.block b (heap_lt h1) h2]; exact h1, fun hx => ?_, h3⟩
    rcases f b hx with h | h
    · exact h2 h
    · have := heap_lt h1; omega
theorem Sk.trans {X' : List (Nat × Obj)} (s : Sk w0 p L0 bs X I w M L) (t : Sk w p L bs X' I w' M' L') (hX : ∀ b o, (b, o) ∈ X → (b, o) ∈ X') : Sk w0 p L0 bs X I w' M' L' := by
  refine ⟨t.rep, s.kp.trans (A' := fun x => L.at p x ∨ x = bs) (fun x hx => ?_) t.kp, fun x hx => ?_, t.memo, t.lt, t.nb, fun b o hb => t.keep b o (hX b o hb)⟩
  · rcases hx with hx | hx
    · rcases s.fr x hx with h | h
      · exact .inl (.inl h)
      · exact .inr h
    · exact .inl (.inr hx)
  · rcases t.fr x hx with h | h
    · exact s.fr x h
    · right; have := s.kp.size; omega
/-- From here on. -/
theorem Sk.here (s : Sk w0 p L0 bs X I w M L) : Sk w p L bs X I w M L := ⟨s.rep, Kp.refl _ _, fun _ h => .inl h, s.memo, s.lt, s.nb, s.keep⟩
theorem Sk.sub {X' : List (Nat × Obj)} (s : Sk w0 p L0 bs X I w M L) (h : ∀ b o, (b, o) ∈ X' → (b, o) ∈ X) : Sk w0 p L0 bs X' I w M L := ⟨s.rep, s.kp, s.fr, s.memo, s.lt, s.nb, fun b o hb => s.keep b o (h b o hb)⟩
/-- A new block that stays. -/
theorem Sk.box (ok : IOk bs I) (s : Sk w0 p L0 bs X I w M L) (cs : Array Value) (t : TypeId) : Sk w0 p L0 bs ((w.heap.size, .cells cs t (0, 0)) :: X) I (w.alloc (.cells cs t)) M L := by
  have s' := s.no ok (Kp.alloc (.cells cs t))
  refine ⟨s'.rep, s'.kp, s'.fr, s'.memo, s'.lt, s'.nb, fun b o hb => ?_⟩
  rcases List.mem_cons.1 hb with e | hb
  · cases e
    exact ⟨heap_alloc_new _ _, fun h => by have := s.rep.lt _ h; omega, fun h => by have := s.lt; omega⟩
  · exact s'.keep b o hb
/-- The memo is updated. -/
theorem Sk.upd (s : Sk w0 p L0 bs X I w M L) (k : Kp (fun x => x = bs) w w') (m : I M w') : Sk w0 p L0 bs X I w' M L :=
  ⟨s.rep.kp k (fun y e => by rw [e]; exact s.nb), s.kp.trans (A' := fun y => y = bs) (fun y e => .inl (.inr e)) (k.mono (fun _ _ e => e)), s.fr, m, Nat.lt_of_lt_of_le s.lt k.size, s.nb, fun b o hb => by
    obtain ⟨h1, h2, h3⟩ := s.keep b o hb
    exact ⟨by rw [k.block b (heap_lt h1) h3]; exact h1, h2, h3⟩⟩
theorem Sk.cell (s : Sk w0 p L0 bs X I w M L) {b i : Nat} {cs : Array Value} {t : TypeId} {v : Value} (h : (b, .cells cs t (0, 0)) ∈ X) (hv : cs[i]? = some v) : w.cell? ⟨b, i, none⟩ = some v ∧ b < w.heap.size := by
  obtain ⟨h1, _, _⟩ := s.keep _ _ h
  exact ⟨by rw [cell_of_row _ _ _ _ _ _ h1]; exact hv, heap_lt h1⟩
end

/-! ### the plain law of products -/
def andF (M : Mgr) (f g : Nat) : Bfn := fun a => M.sem f a && M.sem g a
theorem andF_ext {M M' : Mgr} (h : M.WF) (e : Mgr.Ext M M') {f g : Nat} (hf : M.stored f) (hg : M.stored g) : andF M' f g = andF M f g := funext fun a => by unfold andF; rw [e.sem h hf, e.sem h hg]
theorem andF_reads {M : Mgr} (h : M.WF) {f g d : Nat} (hf : M.stored f) (hg : M.stored g) (df : d ≤ M.depth f) (dg : d ≤ M.depth g) : M.Reads d (andF M f g) := fun a b hab => by
  unfold andF
  rw [Mgr.sem_agree h _ f hf (Nat.le_refl _) a b (fun v hv x => hab v hv (by omega)), Mgr.sem_agree h _ g hg (Nat.le_refl _) a b (fun v hv x => hab v hv (by omega))]

namespace Mgr
theorem reads_depth {M : Mgr} (h : M.WF) {r d : Nat} (hr : M.stored r) (hR : M.Reads d (M.sem r)) (hd : d ≤ M.n) : d ≤ M.depth r := by
  rcases Nat.lt_or_ge (M.depth r) d with hlt | hge
  · exfalso
    have h2 : 2 ≤ r := by
      rcases Nat.lt_or_ge r 2 with h2 | h2
      · have := M.depth_const h2; omega
      · exact h2
    obtain ⟨v0, v1, _⟩ := node_of h hr h2
    have hdd : M.depth r = M.lev (M.nd r).1.toNat := by unfold depth; rw [if_neg (by omega)]
    refine not_indep h (fun f g hf hg e => canon h hf hg e) hr h2 (fun a => hR _ _ (fun v hv hdv => ?_))
    have : v ≠ (M.nd r).1.toNat := fun e => by subst e; omega
    rw [upd_other _ _ _ _ this, upd_other _ _ _ _ this]
  · exact hge

/-- The answer of a product. -/
structure Pro (M : Mgr) (l : List Nat) (F : Bfn) (M' : Mgr) (r : Nat) : Prop where
  ad : Adds M M' (M.ProF l F)
  st : M'.stored r
  sem : ∀ a, M'.sem r a = exQ l F a

theorem Pro.there {M : Mgr} (h : M.WF) {l : List Nat} {F : Bfn} {r : Nat} (st : M.stored r) (e : ∀ a, M.sem r a = exQ l F a) : Pro M l F M r := ⟨Adds.refl h _, st, e⟩
theorem Pro.mk' {M M' : Mgr} {l : List Nat} {F : Bfn} {r : Nat} (ad : Adds M M' (M.Cof (exQ l F))) (st : M'.stored r) (e : ∀ a, M'.sem r a = exQ l F a) : Pro M l F M' r := ⟨ad.mono (fun _ g => ProF.self M l F g), st, e⟩

/-- No quantified variable at or behind the level d. -/
theorem exQ_deep {M : Mgr} {l : List Nat} {F : Bfn} {d : Nat} (hF : M.Reads d F) (hl : ∀ v, v ∈ l → v < M.n → M.lev v < d) : exQ l F = F :=
  exQ_none (fun a b hab => hF a b (fun v hv hd => hab v (fun hvl => by have := hl v hvl hv; omega)))

section
variable {M M1 M2 : Mgr} {l : List Nat} {F : Bfn} {v r0 r1 : Nat}
theorem upd_self (a : Nat → Bool) (v : Nat) : upd a v (a v) = a := by
  funext u; unfold upd; split
  · rename_i e; rw [e]
  · rfl
theorem Pro.reads (h : M.WF) (hv : v < M.n) (hF : M.Reads (M.lev v) F) (x : Bool) : M.Reads (M.lev v + 1) (fun a => F (upd a v x)) := fun a b hab => hF _ _ (fun u hu hd => by
  by_cases e : u = v
  · subst e; rw [upd_same, upd_same]
  · rw [upd_other _ _ _ _ e, upd_other _ _ _ _ e]
    have : M.lev u ≠ M.lev v := fun q => e (lev_inj h hu hv q)
    exact hab u hu (by omega))
theorem Pro.two (h : M.WF) (hv : v < M.n) (hF : M.Reads (M.lev v) F) (p0 : Pro M l (fun a => F (upd a v false)) M1 r0) (p1 : Pro M1 l (fun a => F (upd a v true)) M2 r1) : Adds M M2 (M.ProF l F) ∧ (∀ a, M2.sem r0 a = exQ l (fun a => F (upd a v false)) a) ∧ M2.stored r0 := by
  refine ⟨(p0.ad.mono (fun G g => ProF.upd h hv hF g)).trans (p1.ad.mono (fun G g => ?_)), fun a => by rw [p1.ad.ext.sem p0.ad.wf p0.st, p0.sem], p1.ad.ext.stored p0.st⟩
  exact ProF.upd h hv hF ((ProF.ext p0.ad.ext).1 g)
/-- A variable that is not quantified. -/
theorem Pro.join (h : M.WF) (hv : v < M.n) (hF : M.Reads (M.lev v) F) (hl : v ∉ l) (p0 : Pro M l (fun a => F (upd a v false)) M1 r0) (p1 : Pro M1 l (fun a => F (upd a v true)) M2 r1) : v < M2.n ∧ Pro M l F (M2.joinM v r0 r1).1 (M2.joinM v r0 r1).2 ∧ Ext M2 (M2.joinM v r0 r1).1 := by
  obtain ⟨ad, s0, t0⟩ := Pro.two h hv hF p0 p1
  have hn : M2.n = M.n := ad.ext.n
  have hlev : ∀ u, M2.lev u = M.lev u := ad.ext.lev
  have w2 := p1.ad.wf
  have rd : ∀ x, M2.Reads (M2.lev v + 1) (exQ l fun a => F (upd a v x)) := fun x => by
    rw [hlev]; exact Reads.ext ad.ext (exQ_reads (Pro.reads h hv hF x))
  have hlv := (h.ol v hv).1
  have d0 : M2.lev v < M2.depth r0 := reads_depth w2 t0 (by rw [show M2.sem r0 = _ from funext s0]; exact rd false) (by rw [hlev]; omega)
  have d1 : M2.lev v < M2.depth r1 := reads_depth w2 p1.st (by rw [show M2.sem r1 = _ from funext p1.sem]; exact rd true) (by rw [hlev]; omega)
  have ej : M2.joinM v r0 r1 = M2.put v r0 r1 := if_pos ⟨d0, d1⟩
  have eF : joinF M2 v r0 r1 = exQ l F := by
    funext a
    unfold joinF
    rw [s0, p1.sem, exQ_free hl, exQ_free hl]
    cases hb : a v
    · simp only [Bool.false_eq_true, if_false]; rw [← hb, upd_self]
    · simp only [if_true]; rw [← hb, upd_self]
  have js := join_spec w2 (v := v) (by omega) t0 p1.st
  have pa := put_adds w2 (v := v) (by omega) t0 p1.st d0 d1
  rw [← ej] at pa
  refine ⟨by omega, ⟨ad.trans (pa.mono (fun G g => ProF.self M l F (by rw [g, eF]; exact Cof.self M _))), js.st, fun a => by rw [js.sem, eF]⟩, js.ext⟩
/-- A quantified variable. -/
theorem Pro.apply (h : M.WF) (hv : v < M.n) (hF : M.Reads (M.lev v) F) (hl : v ∈ l) (p0 : Pro M l (fun a => F (upd a v false)) M1 r0) (p1 : Pro M1 l (fun a => F (upd a v true)) M2 r1) :
    Pro M l F (build M2.n M2 (iteF M2 r0 1 r1)).1 (build M2.n M2 (iteF M2 r0 1 r1)).2 ∧ Ext M2 (build M2.n M2 (iteF M2 r0 1 r1)).1 := by
  obtain ⟨ad, s0, t0⟩ := Pro.two h hv hF p0 p1
  have w2 := p1.ad.wf
  have eF : iteF M2 r0 1 r1 = exQ l F := by
    funext a
    unfold iteF
    rw [sem_one, s0, p1.sem, exQ_split hl F a]
    cases exQ l (fun a => F (upd a v false)) a <;> rfl
  have hr : M2.Reads (M2.n - M2.n) (iteF M2 r0 1 r1) := iteF_reads w2 t0 (.inl (by omega)) p1.st (by omega) (by omega) (by omega)
  have sp := build_spec M2.n M2 w2 (Nat.le_refl _) _ hr
  have ba := build_adds w2 (Nat.le_refl _) hr
  refine ⟨⟨ad.trans (ba.mono (fun G g => ProF.self M l F ?_)), sp.st, fun a => by rw [sp.sem, eF]⟩, sp.ext⟩
  rw [eF] at g
  obtain ⟨d, a, rfl⟩ := g
  exact ⟨d, a, funext fun b => by rw [ad.ext.mix]⟩
theorem Pro.full (h : M.WF) (hv : v < M.n) (hF : M.Reads (M.lev v) F) (hl : v ∈ l) (p0 : Pro M l (fun a => F (upd a v false)) M1 1) : Pro M l F M1 1 := by
  refine ⟨p0.ad.mono (fun G g => ProF.upd h hv hF g), .inl (by omega), fun a => ?_⟩
  have := p0.sem a
  rw [sem_one] at this ⊢
  rw [exQ_split hl F a, ← this]; rfl
/-- Nothing left to quantify. -/
theorem Pro.deep {f g : Nat} (h : M.WF) (hf : M.stored f) (hg : M.stored g) (e : exQ l (andF M f g) = andF M f g) :
    Pro M l (andF M f g) (build M.n M (iteF M f g 0)).1 (build M.n M (iteF M f g 0)).2 ∧ Ext M (build M.n M (iteF M f g 0)).1 := by
  have eF : iteF M f g 0 = exQ l (andF M f g) := by
    rw [e]; funext a; unfold iteF andF; rw [sem_zero]; cases M.sem f a <;> simp
  have hr : M.Reads (M.n - M.n) (iteF M f g 0) := iteF_reads h hf hg (.inl (by omega)) (by omega) (by omega) (by omega)
  have sp := build_spec M.n M h (Nat.le_refl _) _ hr
  have ba := build_adds h (Nat.le_refl _) hr
  rw [eF] at ba
  exact ⟨Pro.mk' (by rw [eF]; exact ba) sp.st (fun a => by rw [sp.sem, eF]), sp.ext⟩
end
end Mgr

end Go.Proofs.YtdgnbbmgcgfibaaGreatDoor

namespace Go.Proofs.YtdgnbbmgcgfibaaGreatDoor
open Go.RowKit

/-! ### the plain law -/
def rnF (t : Nat → Nat) (F : Bfn) : Bfn := fun a => F fun v => a (t v)
namespace Mgr
/-- The functions of the nodes that renaming makes. -/
def RenF (M : Mgr) (t : Nat → Nat) (F : Bfn) (G : Bfn) : Prop := (∃ d' a', M.Cof (rnF t fun x => F (M.mix d' a' x)) G) ∨ ∃ v, v < M.n ∧ G = fun a => a v
theorem RenF.ext {M M' : Mgr} (e : Ext M M') {t : Nat → Nat} {F G : Bfn} : M'.RenF t F G ↔ M.RenF t F G := by
  unfold RenF Cof
  simp only [e.mix, e.n]
theorem RenF.self (M : Mgr) (t : Nat → Nat) (F : Bfn) {G : Bfn} (h : M.Cof (rnF t F) G) : M.RenF t F G := by
  refine .inl ⟨0, fun _ => false, ?_⟩
  have e : (fun x => F (M.mix 0 (fun _ => false) x)) = F := funext fun x => by rw [mix_zero]
  rw [e]; exact h
theorem RenF.upd {M : Mgr} (h : M.WF) {t : Nat → Nat} {F G : Bfn} {v : Nat} {x : Bool} (hv : v < M.n) (hF : M.Reads (M.lev v) F) (g : M.RenF t (fun a => F (Mgr.upd a v x)) G) : M.RenF t F G := by
  rcases g with ⟨d', a', g⟩ | g
  · left
    by_cases hd : M.lev v < d'
    · refine ⟨d', Mgr.upd a' v x, ?_⟩
      have e : (fun y => F (M.mix d' (Mgr.upd a' v x) y)) = fun y => F (Mgr.upd (M.mix d' a' y) v x) := funext fun y => by
        congr 1; funext u
        unfold mix Mgr.upd
        by_cases e : u = v
        · subst e; simp [hd]
        · simp only [e, if_false]
      rw [e]; exact g
    · refine ⟨M.lev v + 1, Mgr.upd a' v x, ?_⟩
      have e : (fun y => F (M.mix (M.lev v + 1) (Mgr.upd a' v x) y)) = fun y => F (Mgr.upd (M.mix d' a' y) v x) := funext fun y => by
        refine hF _ _ (fun u hu hlu => ?_)
        unfold mix Mgr.upd
        by_cases e : u = v
        · subst e; simp
        · have : M.lev u ≠ M.lev v := fun q => e (lev_inj h hu hv q)
          have n1 : ¬ M.lev u < M.lev v + 1 := by omega
          have n2 : ¬ M.lev u < d' := by omega
          simp only [n1, n2, e, if_false]
      rw [e]; exact g
  · exact .inr g

/-- The answer of a renaming. -/
structure Ren (M : Mgr) (t : Nat → Nat) (F : Bfn) (M' : Mgr) (r : Nat) : Prop where
  ad : Adds M M' (M.RenF t F)
  st : M'.stored r
  sem : ∀ a, M'.sem r a = rnF t F a
theorem Ren.there {M : Mgr} (h : M.WF) {t : Nat → Nat} {F : Bfn} {r : Nat} (st : M.stored r) (e : ∀ a, M.sem r a = rnF t F a) : Ren M t F M r := ⟨Adds.refl h _, st, e⟩
theorem Ren.join {M M1 M2 : Mgr} {t : Nat → Nat} {F : Bfn} {v r0 r1 : Nat} (h : M.WF) (hv : v < M.n) (htv : t v < M.n) (hF : M.Reads (M.lev v) F) (p0 : Ren M t (fun a => F (upd a v false)) M1 r0) (p1 : Ren M1 t (fun a => F (upd a v true)) M2 r1) :
    t v < M2.n ∧ M2.stored r0 ∧ Ren M t F (M2.joinM (t v) r0 r1).1 (M2.joinM (t v) r0 r1).2 ∧ Ext M2 (M2.joinM (t v) r0 r1).1 := by
  have ad : Adds M M2 (M.RenF t F) := (p0.ad.mono (fun G g => RenF.upd h hv hF g)).trans (p1.ad.mono (fun G g => RenF.upd h hv hF ((RenF.ext p0.ad.ext).1 g)))
  have s0 : ∀ a, M2.sem r0 a = rnF t (fun a => F (upd a v false)) a := fun a => by rw [p1.ad.ext.sem p0.ad.wf p0.st, p0.sem]
  have t0 : M2.stored r0 := p1.ad.ext.stored p0.st
  have w2 := p1.ad.wf
  have hn : M2.n = M.n := ad.ext.n
  have eF : joinF M2 (t v) r0 r1 = rnF t F := by
    funext a
    unfold joinF
    rw [s0, p1.sem]
    unfold rnF
    have key : ∀ x, a (t v) = x → upd (fun u => a (t u)) v x = fun u => a (t u) := fun x hx => by
      funext u
      unfold upd
      by_cases e : u = v
      · subst e; simp [hx]
      · simp [e]
    cases hb : a (t v)
    · simp only [Bool.false_eq_true, if_false]; rw [key _ hb]
    · simp only [if_true]; rw [key _ hb]
  have js := join_spec w2 (v := t v) (by omega) t0 p1.st
  have ja := join_adds w2 (v := t v) (by omega) t0 p1.st
  refine ⟨by omega, t0, ⟨ad.trans (ja.mono (fun G g => ?_)), js.st, fun a => by rw [js.sem, eF]⟩, js.ext⟩
  rcases g with g | g
  · rw [eF] at g
    obtain ⟨d, a, rfl⟩ := g
    exact RenF.self M t F ⟨d, a, funext fun b => by rw [ad.ext.mix]⟩
  · exact .inr ⟨t v, htv, g⟩
end Mgr

/-! ### 'apply' -/
def RnSound (t : Nat → Nat) (M : Mgr) (K : Int → Option Nat) : Prop := ∀ x r, K x = some r → ∃ f : Nat, x = (f : Int) ∧ M.stored f ∧ M.stored r ∧ ∀ a, M.sem r a = rnF t (M.sem f) a
def RnMemo (t : Nat → Nat) (bs : Nat) (M : Mgr) (w : World) : Prop := ∃ K, MapAs w bs intV natV K ∧ RnSound t M K
theorem RnMemo.iok (t : Nat → Nat) (bs : Nat) : IOk bs (RnMemo t bs) := fun M M' w w' A h e k hb ⟨K, m, s⟩ => ⟨K, m.kp k hb, fun x r hr => by
  obtain ⟨f, hx, sf, sr, hs⟩ := s x r hr
  exact ⟨f, hx, e.stored sf, e.stored sr, fun a => by rw [e.sem h sr, show M'.sem f = M.sem f from funext fun b => e.sem h sf b]; exact hs a⟩⟩

def NPost (p : Nat) (L : Lay) (bs : Nat) (t : Nat → Nat) (X : List (Nat × Obj)) (w : World) (M : Mgr) (F : Bfn) (e : Ending) (w' : World) : Prop :=
  ∃ (M' : Mgr) (r : Nat) (L' : Lay), e = .returned (.int .i64 (r : Int)) ∧ Sk w p L bs X (RnMemo t bs) w' M' L' ∧ Mgr.Ren M t F M' r

/-- Where a renamer lies. -/
def rnX (p br bs gt n ct : Nat) (cur : Array Value) : List (Nat × Obj) :=
  [(br, .cells #[ptr p, .slice (some ⟨gt, 0, none⟩) n ct, .map (some bs)] 197 (0, 0)), (gt, .cells cur 3 (0, 0))]
structure RC (p br bs gt n ct : Nat) (t : Nat → Nat) (w : World) : Prop where
  q0 : w.cell? ⟨br, 0, none⟩ = some (ptr p)
  q1 : w.cell? ⟨br, 1, none⟩ = some (.slice (some ⟨gt, 0, none⟩) n ct)
  q2 : w.cell? ⟨br, 2, none⟩ = some (.map (some bs))
  ql : br < w.heap.size
  tl : gt < w.heap.size
  tc : ∀ v, v < n → w.cell? ⟨gt, v, none⟩ = some (.int .i64 (t v : Int))
theorem Sk.rc {p br bs gt n ct : Nat} {t : Nat → Nat} {cur : Array Value} (hcur : ∀ v, v < n → cur[v]? = some (natV (t v))) {X : List (Nat × Obj)} (hX : ∀ x, x ∈ rnX p br bs gt n ct cur → x ∈ X) {w0 w : World} {L0 L : Lay} {I : Mgr → World → Prop} {M : Mgr} (s : Sk w0 p L0 bs X I w M L) : RC p br bs gt n ct t w := by
  have h0 := hX _ (.head _)
  have h1 := hX _ (.tail _ (.head _))
  exact ⟨(s.cell h0 rfl).1, (s.cell h0 rfl).1, (s.cell h0 rfl).1, heap_lt (s.keep _ _ h0).1, heap_lt (s.keep _ _ h1).1, fun v hv => (s.cell h1 (hcur v hv)).1⟩

set_option maxRecDepth 100000 in
set_option maxHeartbeats 4000000 in
theorem apply_step {k p br bs gt n ct : Nat} {t : Nat → Nat} {cur : Array Value} (hcur : ∀ v, v < n → cur[v]? = some (natV (t v))) (htn : ∀ v, v < n → t v < n) (hn256 : n ≤ 256)
    (ih : ∀ (M : Mgr) (L : Lay) (X : List (Nat × Obj)) (f : Nat) (w : World) (j : Nat), j < k → (∀ x, x ∈ rnX p br bs gt n ct cur → x ∈ X) → Sk w p L bs X (RnMemo t bs) w M L → M.n = n → M.stored f → n < j + M.depth f →
      (∀ M', Mgr.Adds M M' (M.RenF t (M.sem f)) → M'.nodes.length ≤ big) →
      Calls Tryz.prog 112 #[ptr br, .int .i64 (f : Int)] w (NPost p L bs t X w M (M.sem f)))
    {M : Mgr} {L : Lay} {X : List (Nat × Obj)} (f : Nat) {w : World} (hX : ∀ x, x ∈ rnX p br bs gt n ct cur → x ∈ X) (s0 : Sk w p L bs X (RnMemo t bs) w M L) (hn : M.n = n) (hf : M.stored f) (df : n < k + M.depth f)
    (hb : ∀ M', Mgr.Adds M M' (M.RenF t (M.sem f)) → M'.nodes.length ≤ big) :
    Calls Tryz.prog 112 #[ptr br, .int .i64 (f : Int)] w (NPost p L bs t X w M (M.sem f)) := by
  have IH := Lib.hid ih
  clear ih
  have OK := Lib.hid (RnMemo.iok t bs)
  have WF := Lib.hid s0.rep.wf
  have THERE : Hid (∀ (w' : World) (r : Nat), Kp No w w' → M.stored r → (∀ a, M.sem r a = rnF t (M.sem f) a) → NPost p L bs t X w M (M.sem f) (.returned (.int .i64 (r : Int))) w') :=
    Lib.hid (fun w' r kp hr e => ⟨M, r, L, rfl, s0.no OK.out kp, Mgr.Ren.there WF.out hr e⟩)
  have HX := Lib.hid hX
  have HC := Lib.hid hcur
  have C0 := s0.rc hcur hX
  have q0 := C0.q0
  have ql := C0.ql
  have ND := Lib.hid (Node_ok f s0.rep hf)
  have S0 := Lib.hid s0
  clear C0 s0 hX hcur
  by_cases h2 : f < 2
  · have hnd : (M.nd f).1 = -1 := by
      have : f = 0 ∨ f = 1 := by omega
      rcases this with rfl | rfl
      · rw [WF.out.nd0]
      · rw [WF.out.nd1]
    have RET := Lib.hid (fun (y : World) (ky : Kp No w y) => THERE.out y f ky hf (fun a => by unfold rnF; rw [M.sem_const _ _ h2, M.sem_const _ _ h2]))
    rw [hnd] at ND
    clear hnd THERE S0 h2 hf df hb
    go_enter Tryz.func112, Tryz.ntmps112
    go_wp2_with fail
    refine ND.out.mono ?_
    rintro e w1 ⟨rfl, k1⟩
    have K1 := Lib.hid k1
    clear k1 ND
    go_wp2_with fail
    go_ret
    exact RET.out _ K1.out
  have hf2 : 2 ≤ f := by omega
  obtain ⟨v0, v1, sl, sh, _, dl, dh⟩ := Mgr.node_of WF.out hf hf2
  have hdf : M.depth f = M.lev (M.nd f).1.toNat := by unfold Mgr.depth; rw [if_neg (by omega)]
  obtain ⟨v, hv⟩ := Int.eq_ofNat_of_zero_le v0
  have hvt : (M.nd f).1.toNat = v := by omega
  rw [hvt] at hdf
  have hvn : v < n := by omega
  have E0 : Hid (M.sem (M.nd f).2.1 = fun a => M.sem f (Mgr.upd a v false)) := Lib.hid (funext fun a => by rw [Mgr.sem_lo WF.out hf hf2, hvt])
  have E1 : Hid (M.sem (M.nd f).2.2 = fun a => M.sem f (Mgr.upd a v true)) := Lib.hid (funext fun a => by rw [Mgr.sem_hi WF.out hf hf2, hvt])
  have RD : Hid (M.Reads (M.lev v) (M.sem f)) := Lib.hid (fun a b hab => Mgr.sem_agree WF.out _ f hf (Nat.le_refl _) a b (fun u hu hd => hab u hu (by omega)))
  obtain ⟨K, hmap, hsnd⟩ := S0.out.memo
  have LK : Hid (∀ (W : World), Kp No w W → (Instr.lookup 195 (.map (some bs)) (.int .i64 f) true).run Tryz.prog W = .ok (.tuple #[(((K (f : Int)).map natV).getD (.int .i64 0)), .bool (K (f : Int)).isSome]) W) := Lib.hid (fun W kp =>
    (hmap.kp kp (fun x => x)).lookup keyRef Tryz.underlying195 zeroRef (f : Int) true)
  rw [hv] at ND
  have hk : 0 < k := by have := M.depth_le WF.out hf; omega
  have DL : Hid (n < (k - 1) + M.depth (M.nd f).2.1 ∧ n < (k - 1) + M.depth (M.nd f).2.2) := Lib.hid (by omega)
  have SL := Lib.hid sl
  have SH := Lib.hid sh
  have HB := Lib.hid hb
  have HN := Lib.hid hn
  have TN := Lib.hid htn
  have HF := Lib.hid hf
  have hvi : (v : Int) < (n : Int) := by omega
  have hv0 : (0 : Int) ≤ (v : Int) := by omega
  have hni : (n : Int) ≤ 256 := by omega
  have HK := Lib.hid hk
  clear v0 v1 sl sh dl dh hdf hv hvt hb hn htn hf df hk h2 hf2
  generalize (M.nd f).2.1 = lo at *
  generalize (M.nd f).2.2 = hi at *
  cases hKf : K (f : Int) with
  | some r =>
    obtain ⟨f', hf', _, sr, hsem⟩ := hsnd _ r hKf
    have : f' = f := by omega
    subst this
    have RET := Lib.hid (fun w' kp => THERE.out w' r kp sr hsem)
    rw [hKf] at LK
    simp only [Option.map_some, Option.getD_some, Option.isSome_some, natV] at LK
    clear THERE hmap hsnd hKf hsem hf' sr
    go_enter Tryz.func112, Tryz.ntmps112
    go_wp2_with fail
    refine ND.out.mono ?_
    rintro e w1 ⟨rfl, k1⟩
    have lk := LK.out w1 k1
    have K1 := Lib.hid k1
    have C1 := (S0.out.no OK.out k1).rc HC.out HX.out
    have q2 := C1.q2
    have ql1 := C1.ql
    clear k1 ND C1 q0 ql
    go_wp2_with fail
    go_ret
    exact RET.out _ K1.out
  | none =>
    rw [hKf] at LK
    simp only [Option.map_none, Option.getD_none, Option.isSome_none] at LK
    clear THERE hmap hsnd hKf
    go_enter Tryz.func112, Tryz.ntmps112
    go_wp2_with fail
    refine ND.out.mono ?_
    rintro e w1 ⟨rfl, k1⟩
    have lk := LK.out w1 k1
    have S1 := Lib.hid (S0.out.no OK.out k1)
    have C1 := S1.out.rc HC.out HX.out
    have q2 := C1.q2
    have ql1 := C1.ql
    clear k1 ND C1 q0 ql S0
    go_wp2_with fail
    have PA := Lib.hid (IH.out M L X lo w1 (k - 1) (by have := HK.out; omega) HX.out S1.out.here HN.out SL.out DL.out.1 (fun M' ad => HB.out M' (ad.mono (fun G g => by
      rw [E0.out] at g
      exact Mgr.RenF.upd WF.out (by rw [HN.out]; exact hvn) RD.out g))))
    rw [E0.out] at PA
    refine PA.out.mono ?_
    intro e w2 h2
    obtain ⟨M1, r0, L1, rfl, t2, p0⟩ := h2
    have S2 := Lib.hid (S1.out.trans t2 (fun _ _ h => h))
    have P0 := Lib.hid p0
    clear t2 p0 PA S1 lk q2 ql1
    go_wp2_with fail
    have EA : Hid (M1.sem hi = fun a => M.sem f (Mgr.upd a v true)) := Lib.hid (by rw [show M1.sem hi = M.sem hi from funext fun b => P0.out.ad.ext.sem WF.out SH.out b, E1.out])
    have PB := Lib.hid (IH.out M1 L1 X hi w2 (k - 1) (by have := HK.out; omega) HX.out S2.out.here (P0.out.ad.ext.n.trans HN.out) (P0.out.ad.ext.stored SH.out) (by rw [P0.out.ad.ext.depth SH.out]; exact DL.out.2) (fun M' ad => HB.out M' ((P0.out.ad.mono (fun G g => Mgr.RenF.upd WF.out (by rw [HN.out]; exact hvn) RD.out g)).trans (ad.mono (fun G g => by
      rw [EA.out] at g
      exact Mgr.RenF.upd WF.out (by rw [HN.out]; exact hvn) RD.out ((Mgr.RenF.ext P0.out.ad.ext).1 g))))))
    rw [EA.out] at PB
    refine PB.out.mono ?_
    intro e w3 h3
    obtain ⟨M2, r1, L2, rfl, t3, p1⟩ := h3
    have S3 := Lib.hid (S2.out.trans t3 (fun _ _ h => h))
    have P1 := Lib.hid p1
    clear t3 p1 PB S2
    have S3d := Lib.hid (S3.out.no OK.out Kp.drew)
    have C3 := S3d.out.rc HC.out HX.out
    have SC : Hid (w3.drew.cell? ⟨br, 0, none⟩ = some (ptr p) ∧ w3.drew.cell? ⟨br, 1, none⟩ = some (.slice (some ⟨gt, 0, none⟩) n ct) ∧ w3.drew.cell? ⟨gt, v, none⟩ = some (.int .i64 (t v : Int))) := Lib.hid ⟨C3.q0, C3.q1, C3.tc v hvn⟩
    obtain ⟨jv, jt, jp, je⟩ := Mgr.Ren.join WF.out (by rw [HN.out]; exact hvn) (by rw [HN.out]; exact TN.out v hvn) RD.out P0.out P1.out
    have JC := Lib.hid (Join_ok (t v) r0 r1 S3d.out.rep jv jt P1.out.st (HB.out _ jp.ad))
    have JP := Lib.hid jp
    have JE := Lib.hid je
    clear C3 jv jt jp je
    generalize M2.joinM (t v) r0 r1 = B9 at *
    obtain ⟨tv, htv⟩ : ∃ x, (t v : Int) = x := ⟨_, rfl⟩
    rw [htv] at SC JC
    have HTV := Lib.hid htv
    clear htv
    go_upto_region 9 with fail
    go_region_held3 (fun y => y.cell? ⟨br, 0, none⟩ = some (ptr p) ∧ y.cell? ⟨br, 1, none⟩ = some (.slice (some ⟨gt, 0, none⟩) n ct) ∧ y.cell? ⟨gt, v, none⟩ = some (.int .i64 tv)) (first | exact SC.out | exact SD.out) (first | (go_at_call 110; (with_reducible refine JC.out.mono ?_); intro e w4 h4; obtain ⟨rfl, L4, s4⟩ := S3d.out.step OK.out JE.out h4; have S4 := Lib.hid s4; have SD := Lib.hid (show w4.cell? ⟨br, 0, none⟩ = some (ptr p) ∧ w4.cell? ⟨br, 1, none⟩ = some (.slice (some ⟨gt, 0, none⟩) n ct) ∧ w4.cell? ⟨gt, v, none⟩ = some (.int .i64 tv) from ⟨(s4.rc HC.out HX.out).q0, (s4.rc HC.out HX.out).q1, by rw [← HTV.out]; exact (s4.rc HC.out HX.out).tc v hvn⟩); clear h4 s4))
    all_goals
      clear SC SD JC P0 P1 S3 S3d JE EA E0 E1 IH HB RD
      obtain ⟨K9, m9, sn9⟩ := S4.out.memo
      obtain ⟨w10, hup, hm10, hk10, _⟩ := m9.update keyRef Tryz.underlying195 (f : Int) B9.2
      have up : (Instr.mapUpdate 195 (.map (some bs)) (.int .i64 f) (.int .i64 B9.2)).run Tryz.prog w4 = .ok () w10 := hup 0
      have RET : Hid (NPost p L bs t X w M (M.sem f) (.returned (.int .i64 (B9.2 : Int))) w10) := Lib.hid ⟨B9.1, B9.2, L4, rfl, S4.out.upd hk10 ⟨_, hm10, fun y s hs => by
        split at hs
        · rename_i hy
          cases hs
          exact ⟨f, hy, JP.out.ad.ext.stored HF.out, JP.out.st, fun a => by rw [JP.out.sem, show B9.1.sem f = M.sem f from funext fun b => JP.out.ad.ext.sem WF.out HF.out b]⟩
        · exact sn9 y s hs⟩, JP.out⟩
      have C9 := S4.out.rc HC.out HX.out
      have q2 := C9.q2
      have ql := C9.ql
      clear hup hm10 hk10 m9 sn9 C9 S4 JP
      go_wp2_with fail
      go_ret
      exact RET.out

/-- The contract of 'apply', at the levels that are left. -/
theorem apply_ok {p br bs gt n ct : Nat} {t : Nat → Nat} {cur : Array Value} (hcur : ∀ v, v < n → cur[v]? = some (natV (t v))) (htn : ∀ v, v < n → t v < n) (hn256 : n ≤ 256) : ∀ (k : Nat) (M : Mgr) (L : Lay) (X : List (Nat × Obj)) (f : Nat) (w : World), (∀ x, x ∈ rnX p br bs gt n ct cur → x ∈ X) → Sk w p L bs X (RnMemo t bs) w M L → M.n = n → M.stored f → n < k + M.depth f →
    (∀ M', Mgr.Adds M M' (M.RenF t (M.sem f)) → M'.nodes.length ≤ big) →
    Calls Tryz.prog 112 #[ptr br, .int .i64 (f : Int)] w (NPost p L bs t X w M (M.sem f)) := by
  intro k
  induction k using Nat.strongRecOn with
  | _ k ih =>
    intro M L X f w hX s hn hf df hb
    exact apply_step hcur htn hn256 (fun M L X f w j hj hX s hn hf df hb => ih j hj M L X f w hX s hn hf df hb) f hX s hn hf df hb

end Go.Proofs.YtdgnbbmgcgfibaaGreatDoor

namespace Go.Proofs.YtdgnbbmgcgfibaaGreatDoor
open Go.RowKit

abbrev Pr := Int × Int
def pairV (x : Pr) : Value := .agg #[.int .i64 x.1, .int .i64 x.2]
theorem sameBits_pair (x : Pr) : Instr.sameBits 10000 (pairV x) (pairV x) = true := by
  rw [show (10000 : Nat) = 9999 + 1 from rfl]
  simp [pairV, Instr.sameBits]
theorem pair_eq (x y : Pr) : (x.1 == y.1 && x.2 == y.2) = decide (x = y) := by
  obtain ⟨a, b⟩ := x
  obtain ⟨a', b'⟩ := y
  rw [Bool.eq_iff_iff]
  simp
theorem keyPair : KeyOk Tryz.prog 193 pairV :=
  keyOk_struct (fs := Tryz.prog.fieldsOf 193) (by kernel_rfl) (fun k => ⟨_, rfl⟩) (fun w em k => by unfold pairV; kernel_rfl)
    (fun w a b => by
      rw [← pair_eq]
      unfold pairV
      by_cases h1 : a.1 = b.1 <;> by_cases h2 : a.2 = b.2 <;> simp [Op.equal, Op.maxDepth, h1, h2] <;> go_simp)
    sameBits_pair

/-- What the memo of 'product' holds is right. -/
def PSound (l : List Nat) (M : Mgr) (K : Pr → Option Nat) : Prop := ∀ x r, K x = some r → ∃ f g : Nat, x = ((f : Int), (g : Int)) ∧ M.stored f ∧ M.stored g ∧ M.stored r ∧ ∀ a, M.sem r a = exQ l (andF M f g) a
def PMemo (l : List Nat) (bs : Nat) (M : Mgr) (w : World) : Prop := ∃ K, MapAs w bs pairV natV K ∧ PSound l M K
theorem PMemo.iok (l : List Nat) (bs : Nat) : IOk bs (PMemo l bs) := fun M M' w w' A h e k hb ⟨K, m, s⟩ => ⟨K, m.kp k hb, fun x r hr => by
  obtain ⟨f, g, hx, sf, sg, sr, hs⟩ := s x r hr
  exact ⟨f, g, hx, e.stored sf, e.stored sg, e.stored sr, fun a => by rw [e.sem h sr, andF_ext h e sf sg]; exact hs a⟩⟩

/-- Where a quantifier lies. -/
structure QL where
  bq : Nat
  bs : Nat
  gi : Nat
  gl : Nat
  last : Int
def QL.X (Q : QL) (p n : Nat) (l : List Nat) (lev : Nat → Nat) : List (Nat × Obj) :=
  [(Q.bq, .cells #[ptr p, .slice (some ⟨Q.gi, 0, none⟩) n n, .slice (some ⟨Q.gl, 0, none⟩) n n, .int .i64 Q.last, .map (some Q.bs)] 189 (0, 0)),
   (Q.gi, .cells (InRow n l).toArray 4 (0, 0)), (Q.gl, .cells ((List.range n).map fun v => natV (lev v)).toArray 3 (0, 0))]

/-- The cells of a quantifier. -/
structure QC (Q : QL) (p n : Nat) (l : List Nat) (lev : Nat → Nat) (w : World) : Prop where
  q0 : w.cell? ⟨Q.bq, 0, none⟩ = some (ptr p)
  q1 : w.cell? ⟨Q.bq, 1, none⟩ = some (.slice (some ⟨Q.gi, 0, none⟩) n n)
  q2 : w.cell? ⟨Q.bq, 2, none⟩ = some (.slice (some ⟨Q.gl, 0, none⟩) n n)
  q3 : w.cell? ⟨Q.bq, 3, none⟩ = some (.int .i64 Q.last)
  q4 : w.cell? ⟨Q.bq, 4, none⟩ = some (.map (some Q.bs))
  ql : Q.bq < w.heap.size
  il : Q.gi < w.heap.size
  ll : Q.gl < w.heap.size
  ic : ∀ v, v < n → w.cell? ⟨Q.gi, v, none⟩ = some (.bool (decide (v ∈ l)))
  lc : ∀ v, v < n → w.cell? ⟨Q.gl, v, none⟩ = some (.int .i64 (lev v : Int))
theorem Sk.qc {Q : QL} {p n : Nat} {l : List Nat} {lev : Nat → Nat} {X : List (Nat × Obj)} (hX : ∀ x, x ∈ Q.X p n l lev → x ∈ X) {w0 w : World} {L0 L : Lay} {I : Mgr → World → Prop} {M : Mgr} (s : Sk w0 p L0 Q.bs X I w M L) : QC Q p n l lev w := by
  have h0 := hX _ (.head _)
  have h1 := hX _ (.tail _ (.head _))
  have h2 := hX _ (.tail _ (.tail _ (.head _)))
  refine ⟨(s.cell h0 rfl).1, (s.cell h0 rfl).1, (s.cell h0 rfl).1, (s.cell h0 rfl).1, (s.cell h0 rfl).1, heap_lt (s.keep _ _ h0).1, heap_lt (s.keep _ _ h1).1, heap_lt (s.keep _ _ h2).1, fun v hv => (s.cell h1 ?_).1, fun v hv => (s.cell h2 ?_).1⟩
  · simp [InRow, hv]
  · simp [natV, hv]

theorem sp_eq {M : Mgr} {f v : Nat} : M.sp f v = if (M.nd f).1 = (v : Int) then (M.nd f).2 else (f, f) := rfl

set_option maxHeartbeats 400000 in
theorem qsplit_ok {p : Nat} {M : Mgr} {L : Lay} (bq f v : Nat) {w : World} (R : Rep w p M L) (hf : M.stored f) (hq : w.cell? ⟨bq, 0, none⟩ = some (ptr p)) :
    Calls Tryz.prog 109 #[ptr bq, .int .i64 (f : Int), .int .i64 (v : Int)] w fun e w' => e = .returned (.tuple #[.int .i64 ((M.sp f v).1 : Int), .int .i64 ((M.sp f v).2 : Int)]) ∧ Kp No w w' := by
  have ND := Lib.hid (Node_ok f R hf)
  have hql := World.block_lt_of_cell? _ _ hq
  rw [sp_eq]
  clear R hf
  generalize M.nd f = x at *
  by_cases hv : x.1 = (v : Int)
  · rw [if_pos hv]
    rw [hv] at ND
    clear hv
    go_enter Tryz.func109, Tryz.ntmps109
    go_wp2_with fail
    refine ND.out.mono ?_
    rintro e w1 ⟨rfl, k1⟩
    have K1 := Lib.hid k1
    clear k1 ND
    go_wp2_with fail
    go_ret2
    exact ⟨rfl, K1.out⟩
  · rw [if_neg hv]
    have hv' : (x.1 == (v : Int)) = false := by simpa using hv
    clear hv
    go_enter Tryz.func109, Tryz.ntmps109
    go_wp2_with fail
    refine ND.out.mono ?_
    rintro e w1 ⟨rfl, k1⟩
    have K1 := Lib.hid k1
    clear k1 ND
    go_wp2_with fail
    go_ret2
    exact ⟨rfl, K1.out⟩

theorem Apply_one {p : Nat} {M : Mgr} {L : Lay} (f h : Nat) {w : World} (R : Rep w p M L) (sf : M.stored f) (sh : M.stored h) (hb : (Mgr.build M.n M (iteF M f 1 h)).1.nodes.length ≤ big) :
    Calls Tryz.prog 108 #[ptr p, .int .i64 (f : Int), .int .i64 1, .int .i64 (h : Int)] w (Ret p L w (Mgr.build M.n M (iteF M f 1 h)).1 (.int .i64 (Mgr.build M.n M (iteF M f 1 h)).2)) :=
  Apply_ok f 1 h R sf (.inl (by omega)) sh hb

/-- What 'product' leaves. -/
def QPost (p : Nat) (L : Lay) (bs : Nat) (l : List Nat) (X : List (Nat × Obj)) (w : World) (M : Mgr) (F : Bfn) (e : Ending) (w' : World) : Prop :=
  ∃ (M' : Mgr) (r : Nat) (L' : Lay), e = .returned (.int .i64 (r : Int)) ∧ Sk w p L bs X (PMemo l bs) w' M' L' ∧ Mgr.Pro M l F M' r

/-- The two functions behind the tests at the head of 'product'. -/
structure Nm (M : Mgr) (f g n k : Nat) (f2 g2 : Nat) : Prop where
  sf : M.stored f2
  sg : M.stored g2
  one : 1 ≤ f2
  le : f2 ≤ g2
  eq : andF M f2 g2 = andF M f g
  df : n < k + M.depth f2
  dg : n < k + M.depth g2

theorem nm {M : Mgr} {f g n k : Nat} (hn : M.n = n) (hk : 0 < k) (hf : M.stored f) (hg : M.stored g) (f0 : f ≠ 0) (g0 : g ≠ 0) (df : n < k + M.depth f) (dg : n < k + M.depth g) :
    ∃ f1 f2 g2, f1 = (if f = g then 1 else f) ∧ f2 = (if g < f1 then g else f1) ∧ g2 = (if g < f1 then f1 else g) ∧ Nm M f g n k f2 g2 := by
  refine ⟨_, _, _, rfl, rfl, rfl, ?_⟩
  have d1 : n < k + M.depth 1 := by rw [M.depth_const (by omega), hn]; omega
  have s1 : M.stored 1 := .inl (by omega)
  by_cases e : f = g
  · subst e
    rw [if_pos rfl]
    have h1 : ¬ f < 1 := by omega
    rw [if_neg h1, if_neg h1]
    exact ⟨s1, hg, by omega, by omega, by funext a; unfold andF; rw [M.sem_one]; cases M.sem f a <;> rfl, d1, dg⟩
  · rw [if_neg e]
    by_cases h : g < f
    · rw [if_pos h, if_pos h]
      exact ⟨hg, hf, by omega, by omega, by funext a; unfold andF; rw [Bool.and_comm], dg, df⟩
    · rw [if_neg h, if_neg h]
      exact ⟨hf, hg, by omega, by omega, rfl, df, dg⟩

/-- The first variable of the two. -/
structure Tp (M : Mgr) (f2 g2 v : Nat) : Prop where
  vn : v < M.n
  lf : M.lev v ≤ M.depth f2
  lg : M.lev v ≤ M.depth g2
  or : M.lev v = M.depth f2 ∨ M.lev v = M.depth g2
theorem tp_g {M : Mgr} (h : M.WF) {f2 g2 : Nat} (sg : M.stored g2) (h2 : 2 ≤ g2) (hd : M.depth g2 ≤ M.depth f2) : Tp M f2 g2 (M.nd g2).1.toNat := by
  obtain ⟨v0, v1, _⟩ := Mgr.node_of h sg h2
  have hdd : M.depth g2 = M.lev (M.nd g2).1.toNat := by unfold Mgr.depth; rw [if_neg (by omega)]
  exact ⟨by omega, by omega, by omega, .inr hdd.symm⟩
theorem tp_f {M : Mgr} (h : M.WF) {f2 g2 : Nat} (sf : M.stored f2) (h2 : 2 ≤ f2) (hd : M.depth f2 ≤ M.depth g2) : Tp M f2 g2 (M.nd f2).1.toNat := by
  obtain ⟨v0, v1, _⟩ := Mgr.node_of h sf h2
  have hdd : M.depth f2 = M.lev (M.nd f2).1.toNat := by unfold Mgr.depth; rw [if_neg (by omega)]
  exact ⟨by omega, by omega, by omega, .inl hdd.symm⟩

/-- What the recursion is told. -/
structure Rc (M : Mgr) (f2 g2 v n k j : Nat) : Prop where
  jk : j < k
  sf0 : M.stored (M.sp f2 v).1
  sf1 : M.stored (M.sp f2 v).2
  sg0 : M.stored (M.sp g2 v).1
  sg1 : M.stored (M.sp g2 v).2
  df0 : n < j + M.depth (M.sp f2 v).1
  df1 : n < j + M.depth (M.sp f2 v).2
  dg0 : n < j + M.depth (M.sp g2 v).1
  dg1 : n < j + M.depth (M.sp g2 v).2
  e0 : andF M (M.sp f2 v).1 (M.sp g2 v).1 = fun a => andF M f2 g2 (Mgr.upd a v false)
  e1 : andF M (M.sp f2 v).2 (M.sp g2 v).2 = fun a => andF M f2 g2 (Mgr.upd a v true)
theorem rc {M : Mgr} (h : M.WF) {f g f2 g2 v n k : Nat} (hn : M.n = n) (m : Nm M f g n k f2 g2) (t : Tp M f2 g2 v) : ∃ j, Rc M f2 g2 v n k j := by
  have hv := h.ol v t.vn
  obtain ⟨a1, a2, a3, a4, a5, a6⟩ := Mgr.sp_spec h m.sf hv.1 t.lf
  obtain ⟨b1, b2, b3, b4, b5, b6⟩ := Mgr.sp_spec h m.sg hv.1 t.lg
  rw [hv.2] at a1 a2 a3 a4 a5 a6 b1 b2 b3 b4 b5 b6
  have hk : 0 < k := by have := m.df; have := M.depth_le h m.sf; omega
  have hlv : n < k + M.lev v := by
    rcases t.or with e | e
    · rw [e]; exact m.df
    · rw [e]; exact m.dg
  exact ⟨k - 1, by omega, a1, a2, b1, b2, by omega, by omega, by omega, by omega, by funext a; unfold andF; rw [a5, b5], by funext a; unfold andF; rw [a6, b6]⟩

set_option maxRecDepth 100000 in
set_option maxHeartbeats 4000000 in
theorem product_step {k p : Nat} {Q : QL} {l : List Nat} {n : Nat} {lev : Nat → Nat}
    (ih : ∀ (M : Mgr) (L : Lay) (X : List (Nat × Obj)) (f g : Nat) (w : World) (j : Nat), j < k → (∀ x, x ∈ Q.X p n l lev → x ∈ X) → Sk w p L Q.bs X (PMemo l Q.bs) w M L → M.n = n → (∀ v, M.lev v = lev v) → M.stored f → M.stored g → n < j + M.depth f → n < j + M.depth g →
      (∀ M', Mgr.Adds M M' (M.ProF l (andF M f g)) → M'.nodes.length ≤ big) →
      Calls Tryz.prog 72 #[ptr Q.bq, .int .i64 (f : Int), .int .i64 (g : Int)] w (QPost p L Q.bs l X w M (andF M f g)))
    (hQl : ∀ v, v ∈ l → v < n → (lev v : Int) ≤ Q.last) (hn256 : n ≤ 256)
    {M : Mgr} {L : Lay} {X : List (Nat × Obj)} (f g : Nat) {w : World} (hX : ∀ x, x ∈ Q.X p n l lev → x ∈ X) (s0 : Sk w p L Q.bs X (PMemo l Q.bs) w M L) (hn : M.n = n) (hlev : ∀ v, M.lev v = lev v) (hf : M.stored f) (hg : M.stored g)
    (df : n < k + M.depth f) (dg : n < k + M.depth g) (hb : ∀ M', Mgr.Adds M M' (M.ProF l (andF M f g)) → M'.nodes.length ≤ big) :
    Calls Tryz.prog 72 #[ptr Q.bq, .int .i64 (f : Int), .int .i64 (g : Int)] w (QPost p L Q.bs l X w M (andF M f g)) := by
  have IH := Lib.hid ih
  clear ih
  have OK := Lib.hid (PMemo.iok l Q.bs)
  have WF := Lib.hid s0.rep.wf
  have THERE : Hid (∀ (w' : World) (r : Nat), Kp No w w' → M.stored r → (∀ a, M.sem r a = exQ l (andF M f g) a) → QPost p L Q.bs l X w M (andF M f g) (.returned (.int .i64 (r : Int))) w') :=
    Lib.hid (fun w' r kp hr e => ⟨M, r, L, rfl, s0.no OK.out kp, Mgr.Pro.there WF.out hr e⟩)
  by_cases f0 : f = 0
  · have b0 : ((f : Int) == 0) = true := by simp [f0]
    have RET := Lib.hid (THERE.out w 0 (Kp.refl _ _) (.inl (by omega)) (fun a => by
      have e : andF M f g = fun _ => false := by funext b; unfold andF; rw [f0, M.sem_zero]; rfl
      rw [e, exQ_const, M.sem_zero]))
    clear THERE s0 hX f0 hf hg df dg hb hlev hn hQl hn256
    go_enter Tryz.func72, Tryz.ntmps72
    go_wp2
    go_ret
    exact RET.out
  by_cases g0 : g = 0
  · have b0 : ((f : Int) == 0) = false := by simp; omega
    have b1 : ((g : Int) == 0) = true := by simp [g0]
    have RET := Lib.hid (THERE.out w 0 (Kp.refl _ _) (.inl (by omega)) (fun a => by
      have e : andF M f g = fun _ => false := by funext b; unfold andF; rw [g0, M.sem_zero]; cases M.sem f b <;> rfl
      rw [e, exQ_const, M.sem_zero]))
    clear THERE s0 hX f0 hf hg df dg hb hlev hn g0 hQl hn256
    go_enter Tryz.func72, Tryz.ntmps72
    go_wp2
    go_ret
    exact RET.out
  have bf0 : ((f : Int) == 0) = false := by simp; omega
  have bg0 : ((g : Int) == 0) = false := by simp; omega
  have hk : 0 < k := by have := M.depth_le WF.out hf; omega
  obtain ⟨f1, f2, g2, hf1, hf2, hg2, m⟩ := nm hn hk hf hg f0 g0 df dg
  have HF1 := Lib.hid hf1
  have HF2 := Lib.hid hf2
  have HG2 := Lib.hid hg2
  have NM := Lib.hid m
  have SK := Lib.hid s0
  have HX := Lib.hid hX
  have HN := Lib.hid hn
  have HL := Lib.hid hlev
  have HB := Lib.hid hb
  have QLA := Lib.hid hQl
  have f0' : 1 ≤ f := by omega
  clear hf1 hf2 hg2 m s0 hX hn hlev hb hf hg df dg f0 g0 hQl hk
  go_enter Tryz.func72, Tryz.ntmps72
  go_upto_if 29 with (fail)
  go_cut [1] (fun s1 x => s1 = .int .i64 (f1 : Int) ∧ x = w)
  case first =>
    by_cases e : f = g
    · have b : ((f : Int) == (g : Int)) = true := by simp [e]
      have E1 : Hid (f1 = 1) := Lib.hid (by rw [HF1.out, if_pos e])
      clear e
      go_wp2
      go_meet
      case rel => exact ⟨by rw [E1.out]; rfl, rfl⟩
    · have b : ((f : Int) == (g : Int)) = false := by simp; omega
      have E1 : Hid (f1 = f) := Lib.hid (by rw [HF1.out, if_neg e])
      clear e
      go_wp2
      go_meet
      case rel => exact ⟨by rw [E1.out], rfl⟩
  case rest =>
  obtain ⟨hs, hw⟩ := hcut
  replace hw := hw.symm
  subst hs hw
  clear bf0 bg0
  go_upto_if 32 with (fail)
  go_cut [1, 2] (fun s1 s2 x => s1 = .int .i64 (f2 : Int) ∧ s2 = .int .i64 (g2 : Int) ∧ x = w)
  case first =>
    by_cases e : g < f1
    · have b : (g : Int) < (f1 : Int) := by omega
      have E1 : Hid (f2 = g ∧ g2 = f1) := Lib.hid ⟨by rw [HF2.out, if_pos e], by rw [HG2.out, if_pos e]⟩
      clear e
      go_wp2
      go_meet
      case rel => exact ⟨by rw [E1.out.1], by rw [E1.out.2], rfl⟩
    · have b : ¬ (g : Int) < (f1 : Int) := by omega
      have E1 : Hid (f2 = f1 ∧ g2 = g) := Lib.hid ⟨by rw [HF2.out, if_neg e], by rw [HG2.out, if_neg e]⟩
      clear e
      go_wp2
      go_meet
      case rel => exact ⟨by rw [E1.out.1], by rw [E1.out.2], rfl⟩
  case rest =>
  obtain ⟨hs1, hs2, hw⟩ := hcut
  replace hw := hw.symm
  subst hs1 hs2 hw
  clear HF1 HF2 HG2
  have C0 := SK.out.qc HX.out
  have q0 := C0.q0
  have ql := C0.ql
  have NG := Lib.hid (Node_ok g2 SK.out.rep NM.out.sg)
  clear C0
  by_cases hg1 : g2 = 1
  · have hf1 : f2 = 1 := by have := NM.out.one; have := NM.out.le; omega
    have RET := Lib.hid (fun (w' : World) (kp : Kp No w w') => THERE.out w' 1 kp (.inl (by omega)) (fun a => by
      rw [← NM.out.eq]
      have e : andF M f2 g2 = fun _ => true := by funext b; unfold andF; rw [hf1, hg1, M.sem_one]; rfl
      rw [e, exQ_const, M.sem_one]))
    have hnd : (M.nd g2).1 = -1 := by rw [hg1, WF.out.nd1]
    rw [hnd] at NG
    clear THERE hnd hg1 hf1
    go_wp2_with fail
    refine NG.out.mono ?_
    rintro e w1 ⟨rfl, k1⟩
    have K1 := Lib.hid k1
    clear k1 NG
    go_wp2
    go_ret
    exact RET.out _ K1.out
  have h2g : 2 ≤ g2 := by have := NM.out.one; have := NM.out.le; omega
  obtain ⟨vg0, vgn, _⟩ := Mgr.node_of WF.out NM.out.sg h2g
  obtain ⟨vg, hvg⟩ := Int.eq_ofNat_of_zero_le vg0
  have hvgn : vg < n := by have := HN.out; omega
  rw [hvg] at NG
  have dgl : M.depth g2 = lev vg := by
    have : M.depth g2 = M.lev (M.nd g2).1.toNat := by unfold Mgr.depth; rw [if_neg (by omega)]
    rw [this, HL.out, show (M.nd g2).1.toNat = vg by omega]
  have TG : Hid (M.depth g2 ≤ M.depth f2 → Tp M f2 g2 vg) := Lib.hid (fun h => by
    have := tp_g WF.out NM.out.sg h2g h
    rwa [show (M.nd g2).1.toNat = vg by omega] at this)
  have HVG := Lib.hid hvg
  have DG := Lib.hid dgl
  clear vg0 vgn hvg dgl
  go_wp2_with fail
  refine NG.out.mono ?_
  rintro e w1 ⟨rfl, k1⟩
  have S1 := Lib.hid (SK.out.no OK.out k1)
  have K1 := Lib.hid k1
  clear k1 NG q0 ql SK
  have C1 := S1.out.qc HX.out
  have q0 := C1.q0
  have ql := C1.ql
  have NF := Lib.hid (Node_ok f2 S1.out.rep NM.out.sf)
  obtain ⟨xf, hxf⟩ : ∃ x, (M.nd f2).1 = x := ⟨_, rfl⟩
  rw [hxf] at NF
  have HXF := Lib.hid hxf
  obtain ⟨b, hb⟩ : ∃ b, decide (2 ≤ f2 ∧ M.depth f2 < M.depth g2) = b := ⟨_, rfl⟩
  have HBB := Lib.hid hb
  clear C1 hxf hb
  go_wp2_with fail
  refine NF.out.mono ?_
  rintro e w2 ⟨rfl, k2⟩
  have S2 := Lib.hid (S1.out.no OK.out k2)
  have K2 := Lib.hid (K1.out.trans_no k2)
  clear k2 NF q0 ql S1 K1
  have C2 := S2.out.qc HX.out
  have q2 := C2.q2
  have ql := C2.ql
  have ll := C2.ll
  have lcg := C2.lc vg hvgn
  have LC := Lib.hid C2.lc
  have hni : (n : Int) ≤ 256 := by omega
  have hvgi : (vg : Int) < (n : Int) := by omega
  clear C2
  have VF : Hid (2 ≤ f2 → ∃ vf : Nat, xf = (vf : Int) ∧ vf < n ∧ M.depth f2 = lev vf ∧ (M.depth f2 ≤ M.depth g2 → Tp M f2 g2 vf)) := Lib.hid (fun h2f => by
    obtain ⟨vf0, vfn, _⟩ := Mgr.node_of WF.out NM.out.sf h2f
    have e := HXF.out
    have hn := HN.out
    obtain ⟨vf, hvf⟩ := Int.eq_ofNat_of_zero_le vf0
    have e2 : (M.nd f2).1.toNat = vf := by omega
    refine ⟨vf, by omega, by omega, ?_, fun h => ?_⟩
    · have : M.depth f2 = M.lev (M.nd f2).1.toNat := by unfold Mgr.depth; rw [if_neg (by omega)]
      rw [this, HL.out, e2]
    · have := tp_f WF.out NM.out.sf h2f h
      rwa [e2] at this)
  go_upto_region 11 with fail
  go_cut [75] (fun s75 x => s75 = .bool b ∧ ∃ d, x = w2.drewN d)
  case first =>
    by_cases hf1 : f2 = 1
    · have hnd : (M.nd f2).1 = -1 := by rw [hf1, WF.out.nd1]
      obtain rfl : xf = -1 := HXF.out.symm.trans hnd
      obtain rfl : b = false := by rw [← HBB.out]; exact decide_eq_false (by omega)
      clear hnd hf1 LC DG TG VF HVG
      go_quiet (fail)
      go_wp2
      go_meet
      case rel => exact ⟨rfl, _, rfl⟩
    · obtain ⟨vf, rfl, hvfn, dfl, _⟩ := VF.out (by have := NM.out.one; omega)
      have lcf := LC.out vf hvfn
      have hvfi : (vf : Int) < (n : Int) := by omega
      have hvf0 : (0 : Int) ≤ (vf : Int) := by omega
      have hbv : b = decide ((lev vf : Int) < (lev vg : Int)) := by
        rw [← HBB.out, dfl, DG.out]
        have := NM.out.one
        rw [Bool.eq_iff_iff, decide_eq_true_eq, decide_eq_true_eq]; omega
      have HBV := Lib.hid hbv
      clear hf1 LC DG TG dfl VF HVG hbv
      generalize (lev vf : Int) = lf at *
      generalize (lev vg : Int) = lg at *
      go_quiet (fail)
      go_wp2
      go_meet
      case rel => exact ⟨by rw [HBV.out], _, rfl⟩
  case rest =>
  obtain ⟨hs, d, hw⟩ := hcut
  subst hs
  have S3 : Hid (Sk w p L Q.bs X (PMemo l Q.bs) wc M L) := Lib.hid (by rw [hw]; exact S2.out.no OK.out (Kp.drewN d))
  have K3 : Hid (Kp No w wc) := Lib.hid (by rw [hw]; exact K2.out.trans_no (Kp.drewN d))
  clear hw S2 K2 q2 ql ll lcg LC hvgi hvgn
  go_upto_if 75 with (fail)
  go_cut [7] (fun s7 x => ∃ v : Nat, s7 = .int .i64 (v : Int) ∧ Tp M f2 g2 v ∧ x = wc)
  case first =>
    cases hb : b
    · have TV := Lib.hid (TG.out (by
        have h := of_decide_eq_false (HBB.out.trans hb)
        rcases Nat.lt_or_ge f2 2 with h2 | h2
        · rw [M.depth_const h2]; exact M.depth_le WF.out NM.out.sg
        · omega))
      have hb2 : b = false := hb
      clear VF TG HBB HVG HXF DG
      subst hb2
      go_wp2
      go_meet
      case rel => exact ⟨vg, rfl, TV.out, rfl⟩
    · have h := of_decide_eq_true (HBB.out.trans hb)
      obtain ⟨vf, rfl, _, _, tvf⟩ := VF.out h.1
      have TV := Lib.hid (tvf (by omega))
      have hb2 : b = true := hb
      clear VF TG HBB HVG HXF DG tvf h
      subst hb2
      go_wp2
      go_meet
      case rel => exact ⟨vf, rfl, TV.out, rfl⟩
  case rest =>
  obtain ⟨v, hs, tv, hw⟩ := hcut
  replace hw := hw.symm
  subst hs hw
  have TV := Lib.hid tv
  clear TG HVG DG tv VF HXF HBB
  have FIN : Hid (∀ (M' : Mgr) (r : Nat) (L' : Lay) (x : World), Sk w p L Q.bs X (PMemo l Q.bs) x M' L' → Mgr.Pro M l (andF M f2 g2) M' r → QPost p L Q.bs l X w M (andF M f g) (.returned (.int .i64 (r : Int))) x) := Lib.hid (fun M' r L' x s pr => ⟨M', r, L', rfl, s, by rw [← NM.out.eq]; exact pr⟩)
  have HB2 : Hid (∀ M', Mgr.Adds M M' (M.ProF l (andF M f2 g2)) → M'.nodes.length ≤ big) := Lib.hid (fun M' ad => HB.out M' (by rw [← NM.out.eq]; exact ad))
  have hvn : v < n := by rw [← HN.out]; exact TV.out.vn
  have RD : Hid (M.Reads (M.lev v) (andF M f2 g2)) := Lib.hid (andF_reads WF.out NM.out.sf NM.out.sg TV.out.lf TV.out.lg)
  have C3 := S3.out.qc HX.out
  have q0 := C3.q0
  have q2 := C3.q2
  have q3 := C3.q3
  have ql := C3.ql
  have ll := C3.ll
  have lcv := C3.lc v hvn
  have hvi : (v : Int) < (n : Int) := by omega
  have hv0 : (0 : Int) ≤ (v : Int) := by omega
  clear C3 h2g hg1
  by_cases hlast : Q.last < (lev v : Int)
  · obtain ⟨pr, ex⟩ := Mgr.Pro.deep (l := l) WF.out NM.out.sf NM.out.sg (Mgr.exQ_deep RD.out (fun u hu hun => by
      have h1 := QLA.out u hu (by rw [← HN.out]; exact hun)
      rw [HL.out, HL.out]; omega))
    have AP := Lib.hid (fun (y : World) (ky : Kp No wc y) => Apply_ok f2 g2 0 (S3.out.no OK.out ky).rep NM.out.sf NM.out.sg (.inl (by omega)) (HB2.out _ pr.ad))
    have PR := Lib.hid pr
    have EX := Lib.hid ex
    clear pr ex RD TV NM HB HB2 IH THERE QLA HN HL
    generalize Mgr.build M.n M (iteF M f2 g2 0) = B at *
    generalize (lev v : Int) = lv at *
    go_upto_region 13 with fail
    go_quiet (fail)
    have kq : Kp No wc (wc.drewN nq) := Kp.drewN nq
    have q0' : (wc.drewN nq).cell? ⟨Q.bq, 0, none⟩ = some (ptr p) := by rw [kq.cell ql (fun x => x)]; exact q0
    clear q0 q2 q3 lcv
    generalize wc.drewN nq = W at *
    have KQ := Lib.hid kq
    have ql' : Q.bq < W.heap.size := World.block_lt_of_cell? _ _ q0'
    clear kq ll ql
    go_wp2_with fail
    refine (AP.out W KQ.out).mono ?_
    intro e w4 h4
    obtain ⟨rfl, L4, s4⟩ := (S3.out.no OK.out KQ.out).step OK.out EX.out h4
    have RET := Lib.hid (FIN.out B.1 B.2 L4 _ s4 PR.out)
    clear h4 s4 AP
    go_wp2_with fail
    go_ret
    exact RET.out
  have hlast' : (lev v : Int) ≤ Q.last := by omega
  obtain ⟨j, rcj⟩ := rc WF.out HN.out NM.out TV.out
  have RC := Lib.hid rcj
  clear rcj
  obtain ⟨K, hmap, hsnd⟩ := S3.out.memo
  have LK : Hid (∀ (W : World), Kp No wc W → (Instr.lookup 187 (.map (some Q.bs)) (.agg #[.int .i64 f2, .int .i64 g2]) true).run Tryz.prog W = .ok (.tuple #[(((K ((f2 : Int), (g2 : Int))).map natV).getD (.int .i64 0)), .bool (K ((f2 : Int), (g2 : Int))).isSome]) W) := Lib.hid (fun W kp =>
    (hmap.kp kp (fun x => x)).lookup keyPair Tryz.underlying187 zeroRef ((f2 : Int), (g2 : Int)) true)
  have LQ := Lib.hid (fun (W : World) (kp : Kp No wc W) => (S3.out.no OK.out kp).qc HX.out)
  generalize (lev v : Int) = lv at *
  go_upto_region 13 with fail
  go_quiet (fail)
  have kq : Kp No wc (wc.drewN nq) := Kp.drewN nq
  have KQ := Lib.hid kq
  clear q0 q2 q3 ql ll lcv kq hlast hlast'
  generalize wc.drewN nq = W at *
  have CW := LQ.out W KQ.out
  have q4 := CW.q4
  have ql := CW.ql
  clear CW
  have hl2 : ∀ m, (Instr.lookup 187 (.map (some Q.bs)) (.agg #[.int .i64 f2, .int .i64 g2]) true).run Tryz.prog ((W.alloc (.cells #[.int .i64 f2, .int .i64 g2] 193)).drewN m) = .ok (.tuple #[(((K ((f2 : Int), (g2 : Int))).map natV).getD (.int .i64 0)), .bool (K ((f2 : Int), (g2 : Int))).isSome]) ((W.alloc (.cells #[.int .i64 f2, .int .i64 g2] 193)).drewN m) := fun m => LK.out _ ((KQ.out.trans_no (Kp.alloc _)).trans_no (Kp.drewN _))
  cases hKx : K ((f2 : Int), (g2 : Int)) with
  | some r =>
    obtain ⟨x1, x2, hx, _, _, sr, hsem⟩ := hsnd _ r hKx
    simp only [Prod.mk.injEq, Int.natCast_inj] at hx
    obtain ⟨rfl, rfl⟩ := hx
    have RET := Lib.hid (fun (y : World) (ky : Kp No w y) => THERE.out y r ky sr (fun a => by rw [← NM.out.eq]; exact hsem a))
    rw [hKx] at hl2
    simp only [Option.map_some, Option.getD_some, Option.isSome_some, natV] at hl2
    clear hKx hsem hsnd hmap LK THERE FIN HB HB2 IH sr
    generalize Q.bs = bs at *
    go_wp2
    go_quiet (fail)
    go_wp2
    go_ret
    exact RET.out _ (((K3.out.trans_no KQ.out).trans_no (Kp.alloc _)).trans_no (Kp.drewN _))
  | none =>
    rw [hKx] at hl2
    simp only [Option.map_none, Option.getD_none, Option.isSome_none] at hl2
    have S4' := Lib.hid ((S3.out.no OK.out KQ.out).box OK.out #[.int .i64 f2, .int .i64 g2] 193)
    have HX' : Hid (∀ x, x ∈ Q.X p n l lev → x ∈ (W.heap.size, Obj.cells #[.int .i64 f2, .int .i64 g2] 193 (0, 0)) :: X) := Lib.hid (fun x hx => .tail _ (HX.out x hx))
    clear hKx hsnd hmap LK THERE
    go_wp2
    go_quiet (fail)
    go_wp2_with fail
    have S4 := Lib.hid (S4'.out.no OK.out (Kp.drewN nq))
    clear hl2 S4' q4 ql LQ
    generalize ((W.alloc (Obj.cells #[.int .i64 f2, .int .i64 g2] 193)).drewN nq) = W4 at *
    refine (qsplit_ok Q.bq f2 v S4.out.rep NM.out.sf (S4.out.qc HX'.out).q0).mono ?_
    rintro e w5 ⟨rfl, k5⟩
    have S5 := Lib.hid (S4.out.no OK.out k5)
    clear k5 S4
    go_wp2_with fail
    refine (qsplit_ok Q.bq g2 v S5.out.rep NM.out.sg (S5.out.qc HX'.out).q0).mono ?_
    rintro e w6 ⟨rfl, k6⟩
    have S6 := Lib.hid (S5.out.no OK.out k6)
    clear k6 S5
    go_wp2_with fail
    refine (IH.out M L _ (M.sp f2 v).1 (M.sp g2 v).1 w6 j RC.out.jk HX'.out S6.out.here HN.out HL.out RC.out.sf0 RC.out.sg0 RC.out.df0 RC.out.dg0 (fun M' ad => HB2.out M' (ad.mono (fun G hG => by
      rw [RC.out.e0] at hG
      exact Mgr.ProF.upd WF.out TV.out.vn RD.out hG)))).mono ?_
    intro e w7 h7
    obtain ⟨M1, r0, L1, rfl, t7, pr0⟩ := h7
    rw [RC.out.e0] at pr0
    have S7 := Lib.hid (S6.out.trans t7 (fun _ _ h => h))
    have P0 := Lib.hid pr0
    clear t7 pr0 S6
    have C7 := S7.out.qc HX'.out
    have q1 := C7.q1
    have ql := C7.ql
    have il := C7.il
    have icv := C7.ic v hvn
    have q0 := C7.q0
    have S0 : Hid (w7.drew.cell? ⟨Q.bq, 0, none⟩ = some (ptr p)) := Lib.hid (by rw [Kp.drew.cell ql (fun x => x)]; exact q0)
    have EA : Hid (andF M1 (M.sp f2 v).2 (M.sp g2 v).2 = fun a => andF M f2 g2 (Mgr.upd a v true)) := Lib.hid (by rw [andF_ext WF.out P0.out.ad.ext RC.out.sf1 RC.out.sg1, RC.out.e1])
    have PC := Lib.hid (fun (y : World) (ky : Kp No w7 y) => IH.out M1 L1 _ (M.sp f2 v).2 (M.sp g2 v).2 y j RC.out.jk HX'.out (S7.out.no OK.out ky).here (P0.out.ad.ext.n.trans HN.out) (fun u => (P0.out.ad.ext.lev u).trans (HL.out u)) (P0.out.ad.ext.stored RC.out.sf1) (P0.out.ad.ext.stored RC.out.sg1) (by rw [P0.out.ad.ext.depth RC.out.sf1]; exact RC.out.df1) (by rw [P0.out.ad.ext.depth RC.out.sg1]; exact RC.out.dg1) (fun M' ad => HB2.out M' ((P0.out.ad.mono (fun G hG => Mgr.ProF.upd WF.out TV.out.vn RD.out hG)).trans (ad.mono (fun G hG => by
      rw [EA.out] at hG
      exact Mgr.ProF.upd WF.out TV.out.vn RD.out ((Mgr.ProF.ext P0.out.ad.ext).1 hG))))))
    rw [EA.out] at PC
    clear C7
    generalize (M.sp f2 v).2 = f21 at *
    generalize (M.sp g2 v).2 = g21 at *
    by_cases hvl : v ∈ l
    · rw [decide_eq_true hvl] at icv
      by_cases hr : r0 = 1
      · have br : ((r0 : Int) != 1) = false := by simp; omega
        have P9 : Hid (Mgr.Pro M l (andF M f2 g2) M1 r0) := Lib.hid (by
          have := P0.out
          rw [hr] at this ⊢
          exact Mgr.Pro.full WF.out TV.out.vn RD.out hvl this)
        have S9 := S7
        clear hr PC S7 P0 S0
        go_wp2_with fail
        clear q0 q1 ql il icv
        obtain ⟨K9, m9, sn9⟩ := S9.out.memo
        obtain ⟨w10, hup, hm10, hk10, _⟩ := m9.update keyPair Tryz.underlying187 ((f2 : Int), (g2 : Int)) r0
        have up : (Instr.mapUpdate 187 (.map (some Q.bs)) (.agg #[.int .i64 f2, .int .i64 g2]) (.int .i64 r0)).run Tryz.prog w7.drew = .ok () w10.drew := hup 1
        have RET : Hid (QPost p L Q.bs l X w M (andF M f g) (.returned (.int .i64 (r0 : Int))) w10.drew) := Lib.hid (FIN.out (M1) (r0) L1 _ (((S9.out.upd hk10 ⟨_, hm10, fun y s hs => by
          split at hs
          · rename_i hy
            cases hs
            exact ⟨f2, g2, hy, P9.out.ad.ext.stored NM.out.sf, P9.out.ad.ext.stored NM.out.sg, P9.out.st, fun a => by rw [P9.out.sem, andF_ext WF.out P9.out.ad.ext NM.out.sf NM.out.sg]⟩
          · exact sn9 y s hs⟩).sub (fun _ _ h => .tail _ h)).no OK.out Kp.drew) P9.out)
        have C9 := S9.out.qc HX'.out
        have q4 := C9.q4
        have ql := C9.ql
        have e0 := (S9.out.cell (i := 0) (.head _) rfl).1
        have e1 := (S9.out.cell (i := 1) (.head _) rfl).1
        clear hup hm10 hk10 m9 sn9 C9 S9 P9 FIN IH HB
        generalize Q.bs = bs at *
        go_region
        go_wp2
        go_ret
        exact RET.out
      · have br : ((r0 : Int) != 1) = true := by simp; omega
        go_upto_region 25 with fail
        clear q1 icv il hr
        go_region_held3 (fun y => y.cell? ⟨Q.bq, 0, none⟩ = some (ptr p)) (first | exact S0.out | exact SB.out) (first | (go_at_call 72; (with_reducible refine (PC.out _ Kp.drew).mono ?_); intro e w8 h8; obtain ⟨M2, r1, L2, rfl, t8, pr1⟩ := h8; have S8 := Lib.hid ((S7.out.no OK.out Kp.drew).trans t8 (fun _ _ h => h)); have P1 := Lib.hid pr1; have SB := Lib.hid (S8.out.qc HX'.out).q0; clear t8 pr1) | (go_at_call 108; obtain ⟨jp, je⟩ := Mgr.Pro.apply WF.out TV.out.vn RD.out hvl P0.out P1.out; (with_reducible refine (Apply_one r0 r1 S8.out.rep (P1.out.ad.ext.stored P0.out.st) P1.out.st (HB2.out _ jp.ad)).mono ?_); intro e w9 h9; obtain ⟨rfl, L9, s9⟩ := S8.out.step OK.out je h9; have SB := Lib.hid (s9.qc HX'.out).q0; have S9 := Lib.hid s9; have P9 := Lib.hid jp; clear h9 s9 jp je))
        all_goals
          clear PC S7 P0 S0 P1 S8 SB q0 ql br
          generalize Mgr.build M2.n M2 (iteF M2 r0 1 r1) = B9 at *
          go_wp2_with fail
          obtain ⟨K9, m9, sn9⟩ := S9.out.memo
          obtain ⟨w10, hup, hm10, hk10, _⟩ := m9.update keyPair Tryz.underlying187 ((f2 : Int), (g2 : Int)) B9.2
          have up : (Instr.mapUpdate 187 (.map (some Q.bs)) (.agg #[.int .i64 f2, .int .i64 g2]) (.int .i64 B9.2)).run Tryz.prog w9.drew = .ok () w10.drew := hup 1
          have RET : Hid (QPost p L Q.bs l X w M (andF M f g) (.returned (.int .i64 (B9.2 : Int))) w10.drew) := Lib.hid (FIN.out (B9.1) (B9.2) L9 _ (((S9.out.upd hk10 ⟨_, hm10, fun y s hs => by
            split at hs
            · rename_i hy
              cases hs
              exact ⟨f2, g2, hy, P9.out.ad.ext.stored NM.out.sf, P9.out.ad.ext.stored NM.out.sg, P9.out.st, fun a => by rw [P9.out.sem, andF_ext WF.out P9.out.ad.ext NM.out.sf NM.out.sg]⟩
            · exact sn9 y s hs⟩).sub (fun _ _ h => .tail _ h)).no OK.out Kp.drew) P9.out)
          have C9 := S9.out.qc HX'.out
          have q4 := C9.q4
          have ql := C9.ql
          have e0 := (S9.out.cell (i := 0) (.head _) rfl).1
          have e1 := (S9.out.cell (i := 1) (.head _) rfl).1
          clear hup hm10 hk10 m9 sn9 C9 S9 P9 FIN IH HB
          generalize Q.bs = bs at *
          go_region
          go_wp2
          go_ret
          exact RET.out
    · rw [decide_eq_false hvl] at icv
      go_upto_region 23 with fail
      clear q1 icv il
      go_region_held3 (fun y => y.cell? ⟨Q.bq, 0, none⟩ = some (ptr p)) (first | exact S0.out | exact SB.out) (first | (go_at_call 72; (with_reducible refine (PC.out _ Kp.drew).mono ?_); intro e w8 h8; obtain ⟨M2, r1, L2, rfl, t8, pr1⟩ := h8; have S8 := Lib.hid ((S7.out.no OK.out Kp.drew).trans t8 (fun _ _ h => h)); have P1 := Lib.hid pr1; have SB := Lib.hid (S8.out.qc HX'.out).q0; clear t8 pr1) | (go_at_call 110; obtain ⟨jv, jp, je⟩ := Mgr.Pro.join WF.out TV.out.vn RD.out hvl P0.out P1.out; (with_reducible refine (Join_ok v r0 r1 S8.out.rep jv (P1.out.ad.ext.stored P0.out.st) P1.out.st (HB2.out _ jp.ad)).mono ?_); intro e w9 h9; obtain ⟨rfl, L9, s9⟩ := S8.out.step OK.out je h9; have SB := Lib.hid (s9.qc HX'.out).q0; have S9 := Lib.hid s9; have P9 := Lib.hid jp; clear h9 s9 jp je jv))
      all_goals
        clear PC S7 P0 S0 P1 S8 SB q0 ql
        generalize M2.joinM v r0 r1 = B9 at *
        go_wp2_with fail
        obtain ⟨K9, m9, sn9⟩ := S9.out.memo
        obtain ⟨w10, hup, hm10, hk10, _⟩ := m9.update keyPair Tryz.underlying187 ((f2 : Int), (g2 : Int)) B9.2
        have up : (Instr.mapUpdate 187 (.map (some Q.bs)) (.agg #[.int .i64 f2, .int .i64 g2]) (.int .i64 B9.2)).run Tryz.prog w9.drew = .ok () w10.drew := hup 1
        have RET : Hid (QPost p L Q.bs l X w M (andF M f g) (.returned (.int .i64 (B9.2 : Int))) w10.drew) := Lib.hid (FIN.out (B9.1) (B9.2) L9 _ (((S9.out.upd hk10 ⟨_, hm10, fun y s hs => by
          split at hs
          · rename_i hy
            cases hs
            exact ⟨f2, g2, hy, P9.out.ad.ext.stored NM.out.sf, P9.out.ad.ext.stored NM.out.sg, P9.out.st, fun a => by rw [P9.out.sem, andF_ext WF.out P9.out.ad.ext NM.out.sf NM.out.sg]⟩
          · exact sn9 y s hs⟩).sub (fun _ _ h => .tail _ h)).no OK.out Kp.drew) P9.out)
        have C9 := S9.out.qc HX'.out
        have q4 := C9.q4
        have ql := C9.ql
        have e0 := (S9.out.cell (i := 0) (.head _) rfl).1
        have e1 := (S9.out.cell (i := 1) (.head _) rfl).1
        clear hup hm10 hk10 m9 sn9 C9 S9 P9 FIN IH HB
        generalize Q.bs = bs at *
        go_region
        go_wp2
        go_ret
        exact RET.out

/-- The contract of 'product', at the levels that are left. -/
theorem product_ok {p : Nat} {Q : QL} {l : List Nat} {n : Nat} {lev : Nat → Nat} (hQl : ∀ v, v ∈ l → v < n → (lev v : Int) ≤ Q.last) (hn256 : n ≤ 256) : ∀ (k : Nat) (M : Mgr) (L : Lay) (X : List (Nat × Obj)) (f g : Nat) (w : World), (∀ x, x ∈ Q.X p n l lev → x ∈ X) → Sk w p L Q.bs X (PMemo l Q.bs) w M L → M.n = n → (∀ v, M.lev v = lev v) → M.stored f → M.stored g → n < k + M.depth f → n < k + M.depth g →
    (∀ M', Mgr.Adds M M' (M.ProF l (andF M f g)) → M'.nodes.length ≤ big) →
    Calls Tryz.prog 72 #[ptr Q.bq, .int .i64 (f : Int), .int .i64 (g : Int)] w (QPost p L Q.bs l X w M (andF M f g)) := by
  intro k
  induction k using Nat.strongRecOn with
  | _ k ih =>
    intro M L X f g w hX s hn hlev hf hg df dg hb
    exact product_step (fun M L X f g w j hj hX s hn hlev hf hg df dg hb => ih j hj M L X f g w hX s hn hlev hf hg df dg hb) hQl hn256 f g hX s hn hlev hf hg df dg hb

end Go.Proofs.YtdgnbbmgcgfibaaGreatDoor

namespace Go.Proofs.YtdgnbbmgcgfibaaGreatDoor
open Go.RowKit

theorem row_full {w : World} {b e n g : Nat} {xs : List Value} (h : w.ownsRow b e 1 (.slice (some ⟨g, 0, none⟩) n n) n xs) : w.heap[g]? = some (.cells xs.toArray e (0, 0)) := by
  rcases h.2 with ⟨hx, _⟩ | ⟨g', cap', cur, hv, hb, hg, h1, h2, h3, h4⟩
  · cases hx
  · cases hv
    have e1 : cur.toList.take (n * 1) = cur.toList := List.take_of_length_le (by rw [Array.length_toList]; omega)
    rw [e1] at h4
    rw [hg, ← h4]

/-- The state while a quantifier is made. -/
structure NqJ (w : World) (p n : Nat) (lev : Nat → Nat) (Q : QL) (l : List Nat) (x : World) : Prop where
  inr : x.ownsRow w.heap.size 4 1 (.slice (some ⟨Q.gi, 0, none⟩) n n) n (InRow n l)
  str : x.heap[Q.bq]? = some (.cells #[ptr p, .slice (some ⟨Q.gi, 0, none⟩) n n, .slice (some ⟨Q.gl, 0, none⟩) n n, .int .i64 Q.last, .map (some Q.bs)] 189 (0, 0))
  lvr : x.heap[Q.gl]? = some (.cells ((List.range n).map fun v => natV (lev v)).toArray 3 (0, 0))
  mp : x.heap[Q.bs]? = some (.map #[] 0)
  kp : Kp No w x
  nq : w.heap.size ≤ Q.bq
  ns : w.heap.size ≤ Q.bs
  nl : w.heap.size ≤ Q.gl
  la : ∀ v, v ∈ l → (lev v : Int) ≤ Q.last

theorem NqJ.make {w x : World} {p n bq bs gi gl : Nat} {lev : Nat → Nat} (hbq : bq = x.heap.size) (hi : ∃ b, w.heap.size ≤ b ∧ x.ownsRow b 4 1 (.slice (some ⟨gi, 0, none⟩) n n) n (InRow n []))
    (hl : ∃ b, w.heap.size ≤ b ∧ x.ownsRow b 3 1 (.slice (some ⟨gl, 0, none⟩) n n) n ((List.range n).map fun v => natV (lev v))) (hm : x.heap[bs]? = some (.map #[] 0)) (ns : w.heap.size ≤ bs) (k : Kp No w x) :
    NqJ w p n lev ⟨bq, bs, gi, gl, -1⟩ [] (x.alloc (.cells #[ptr p, .slice (some ⟨gi, 0, none⟩) n n, .slice (some ⟨gl, 0, none⟩) n n, .int .i64 (-1), .map (some bs)] 189)) := by
  obtain ⟨b1, hb1, r1⟩ := hi
  obtain ⟨b2, hb2, r2⟩ := hl
  have ka := Kp.alloc (w := x) (.cells #[ptr p, .slice (some ⟨gi, 0, none⟩) n n, .slice (some ⟨gl, 0, none⟩) n n, .int .i64 (-1), .map (some bs)] 189)
  refine ⟨ownsRow_mono (ownsRow_kp r1 ka (fun _ _ z => z)) hb1, ?_, row_full (ownsRow_kp r2 ka (fun _ _ z => z)), ?_, k.trans_no ka, ?_, ns, ?_, fun v hv => by cases hv⟩
  · rw [hbq]; exact heap_alloc_new _ _
  · rw [ka.block _ (heap_lt hm) (fun z => z)]; exact hm
  · show w.heap.size ≤ bq
    have := k.size; omega
  · have := (r2.lt gl rfl).1
    show w.heap.size ≤ gl
    omega

theorem NqJ.no {w x y : World} {p n : Nat} {lev : Nat → Nat} {Q : QL} {l : List Nat} (j : NqJ w p n lev Q l x) (k : Kp No x y) : NqJ w p n lev Q l y :=
  ⟨ownsRow_kp j.inr k (fun _ _ z => z), by rw [k.block _ (heap_lt j.str) (fun z => z)]; exact j.str, by rw [k.block _ (heap_lt j.lvr) (fun z => z)]; exact j.lvr, by rw [k.block _ (heap_lt j.mp) (fun z => z)]; exact j.mp, j.kp.trans_no k, j.nq, j.ns, j.nl, j.la⟩
theorem NqJ.put {w x : World} {p n v : Nat} {lev : Nat → Nat} {Q : QL} {l : List Nat} (j : NqJ w p n lev Q l x) : NqJ w p n lev { Q with last := if (lev v : Int) ≤ Q.last then Q.last else (lev v : Int) } (l ++ [v]) ((x.setCell ⟨Q.gi, v, none⟩ (.bool true)).setCell ⟨Q.bq, 3, none⟩ (.int .i64 (if (lev v : Int) ≤ Q.last then Q.last else (lev v : Int)))) := by
  have hi := row_full j.inr
  have hgi := (j.inr.lt Q.gi rfl).1
  have n1 : Q.gi ≠ Q.bq := fun e => by have := j.str; rw [← e, hi] at this; simp at this
  have n2 : Q.gl ≠ Q.bq := fun e => by have := j.str; rw [← e, j.lvr] at this; simp at this
  have n3 : Q.gl ≠ Q.gi := fun e => by have := hi; rw [← e, j.lvr] at this; simp at this
  have n4 : Q.bs ≠ Q.bq := fun e => by have := j.str; rw [← e, j.mp] at this; simp at this
  have n5 : Q.bs ≠ Q.gi := fun e => by have := hi; rw [← e, j.mp] at this; simp at this
  refine ⟨?_, ?_, ?_, ?_, ?_, j.nq, j.ns, j.nl, ?_⟩
  · have := ownsRow_put j.inr v (.bool true)
    rw [InRow_set] at this
    exact ownsRow_kp this (Kp.setCell _ _) (fun b hb e => by injection hb with hb; exact n1 (hb.trans e))
  · have : (x.setCell ⟨Q.gi, v, none⟩ (.bool true)).heap[Q.bq]? = some (.cells #[ptr p, .slice (some ⟨Q.gi, 0, none⟩) n n, .slice (some ⟨Q.gl, 0, none⟩) n n, .int .i64 Q.last, .map (some Q.bs)] 189 (0, 0)) := by
      rw [Below.heap_setCell _ _ _ _ (fun e => n1 e.symm)]; exact j.str
    rw [setCell_heap this]; rfl
  · rw [Below.heap_setCell _ _ _ _ n2, Below.heap_setCell _ _ _ _ n3]; exact j.lvr
  · rw [Below.heap_setCell _ _ _ _ n4, Below.heap_setCell _ _ _ _ n5]; exact j.mp
  · refine (j.kp.trans (A' := fun b => b = Q.gi) (fun b e => .inr (by omega)) ((Kp.setCell _ _).mono (fun _ _ e => e))).trans (A' := fun b => b = Q.bq) (fun b e => .inr (by have := j.nq; omega)) ((Kp.setCell _ _).mono (fun _ _ e => e))
  · intro u hu
    show (lev u : Int) ≤ if (lev v : Int) ≤ Q.last then Q.last else (lev v : Int)
    rcases List.mem_append.1 hu with hu | hu
    · have := j.la u hu
      split <;> omega
    · rw [List.mem_singleton] at hu
      subst hu
      split <;> omega

/-- What 'newQuantifier' leaves. -/
def NqPost (w : World) (p n : Nat) (lev : Nat → Nat) (l : List Nat) (e : Ending) (w' : World) : Prop := ∃ Q, e = .returned (ptr (QL.bq Q)) ∧ NqJ w p n lev Q l w'

def NqR (w : World) (p n : Nat) (lev : Nat → Nat) (bq : Nat) (l : List Nat) (gk : Nat) (s : Value) (x : World) : Prop := ∃ i Q, i + gk = l.length ∧ s = .int .i64 (i : Int) ∧ QL.bq Q = bq ∧ NqJ w p n lev Q (l.take i) x

set_option maxRecDepth 100000 in
set_option maxHeartbeats 4000000 in
theorem newQuantifier_ok {p : Nat} {M : Mgr} {L : Lay} (l : List Nat) (hl : l.length ≤ 1000000) (hlv : ∀ v, v ∈ l → v < M.n) {dv : Value} {w : World} (R : Rep w p M L) (hn : M.n ≤ 256) (hd : SrcAt w dv 1 l.length (l.map natV)) :
    Calls Tryz.prog 71 #[ptr p, dv] w (NqPost w p M.n M.lev l) := by
  have VARS := Lib.hid (fun (y : World) (ky : Kp No w y) => vars_ok (R.no ky))
  unfold natV at VARS
  have LEV := Lib.hid (fun (y : World) (ky : Kp No w y) => levels_ok (R.no ky) hn)
  obtain ⟨mk, hmk⟩ := Classical.axiomOfChoice (fun (W : World) => InJ.start W M.n hn)
  have mk1 := fun W => (hmk W).1
  have MK := Lib.hid (fun W => (hmk W).2.out)
  have hmm := @run_makeMap Tryz.prog
  have HD : Hid (∀ y, Kp No w y → SrcAt y dv 1 l.length (l.map natV)) := Lib.hid (fun y ky => hd.no ky)
  have HV := Lib.hid hlv
  have LVN := Lib.hid (fun u (hu : u < M.n) => (R.wf.ol u hu).1)
  obtain ⟨ao, cp, rfl⟩ := hd.form
  have hli : (l.length : Int) ≤ 1000000 := by omega
  clear hmk R hd hlv
  go_enter Tryz.func71, Tryz.ntmps71
  go_upto_region 1 with fail
  go_cut [5] (fun s5 x => ∃ Q, s5 = ptr (QL.bq Q) ∧ NqJ w p M.n M.lev Q [] x)
  case first =>
    go_region_with (first | (go_at_call 105; refine (VARS.out _ ?_).mono ?_; (repeat' (first | exact Kp.refl _ _ | (refine Kp.trans_no ?_ (MK.out _).kp) | (refine Kp.trans_no ?_ (Kp.alloc _)) | (refine Kp.trans_no ?_ Kp.drew) | (refine Kp.trans_no ?_ k2))); rintro e w' ⟨rfl, rfl⟩) | (go_at_call 106; refine (LEV.out _ ?_).mono ?_; (repeat' (first | exact Kp.refl _ _ | (refine Kp.trans_no ?_ (MK.out _).kp) | (refine Kp.trans_no ?_ (Kp.alloc _)) | (refine Kp.trans_no ?_ Kp.drew) | (refine Kp.trans_no ?_ k2))); rintro e w2 ⟨g2, rfl, row2, k2⟩))
    · clear VARS LEV mk1 hmm HD HV LVN
      go_wp2_with fail
      go_meet
      case rel => exact ⟨⟨_, _, _, _, -1⟩, rfl, NqJ.make (x := (World.alloc w2 (.map #[] 0))) (by simp) ⟨_, (show Kp No w w.drew from (by (repeat' (first | exact Kp.refl _ _ | (refine Kp.trans_no ?_ (MK.out _).kp) | (refine Kp.trans_no ?_ (Kp.alloc _)) | (refine Kp.trans_no ?_ Kp.drew) | (refine Kp.trans_no ?_ k2))))).size, ownsRow_kp (MK.out w.drew).row (show Kp No (mk w.drew) (World.alloc w2 (.map #[] 0)) from by (repeat' (first | exact Kp.refl _ _ | (refine Kp.trans_no ?_ (MK.out _).kp) | (refine Kp.trans_no ?_ (Kp.alloc _)) | (refine Kp.trans_no ?_ Kp.drew) | (refine Kp.trans_no ?_ k2)))) (fun _ _ z => z)⟩ ⟨_, (show Kp No w (mk w.drew) from (by (repeat' (first | exact Kp.refl _ _ | (refine Kp.trans_no ?_ (MK.out _).kp) | (refine Kp.trans_no ?_ (Kp.alloc _)) | (refine Kp.trans_no ?_ Kp.drew) | (refine Kp.trans_no ?_ k2))))).size, ownsRow_kp row2 (show Kp No w2 (World.alloc w2 (.map #[] 0)) from by (repeat' (first | exact Kp.refl _ _ | (refine Kp.trans_no ?_ (MK.out _).kp) | (refine Kp.trans_no ?_ (Kp.alloc _)) | (refine Kp.trans_no ?_ Kp.drew) | (refine Kp.trans_no ?_ k2)))) (fun _ _ z => z)⟩ (by have h : (World.alloc w2 (.map #[] 0)).heap[World.heap w2 |>.size]? = some (.map #[] 0) := heap_alloc_new _ _; rw [← (show Kp No (World.alloc w2 (.map #[] 0)) (World.alloc w2 (.map #[] 0)) from by (repeat' (first | exact Kp.refl _ _ | (refine Kp.trans_no ?_ (MK.out _).kp) | (refine Kp.trans_no ?_ (Kp.alloc _)) | (refine Kp.trans_no ?_ Kp.drew) | (refine Kp.trans_no ?_ k2)))).block _ (heap_lt h) (fun z => z)] at h; exact h) ((show Kp No w w2 from (by (repeat' (first | exact Kp.refl _ _ | (refine Kp.trans_no ?_ (MK.out _).kp) | (refine Kp.trans_no ?_ (Kp.alloc _)) | (refine Kp.trans_no ?_ Kp.drew) | (refine Kp.trans_no ?_ k2))))).size) (by (repeat' (first | exact Kp.refl _ _ | (refine Kp.trans_no ?_ (MK.out _).kp) | (refine Kp.trans_no ?_ (Kp.alloc _)) | (refine Kp.trans_no ?_ Kp.drew) | (refine Kp.trans_no ?_ k2))))⟩
    · clear VARS LEV mk1 hmm HD HV LVN
      go_wp2_with fail
      go_meet
      case rel => exact ⟨⟨_, _, _, _, -1⟩, rfl, NqJ.make (x := w2) (by simp) ⟨_, (show Kp No w w.drew from (by (repeat' (first | exact Kp.refl _ _ | (refine Kp.trans_no ?_ (MK.out _).kp) | (refine Kp.trans_no ?_ (Kp.alloc _)) | (refine Kp.trans_no ?_ Kp.drew) | (refine Kp.trans_no ?_ k2))))).size, ownsRow_kp (MK.out w.drew).row (show Kp No (mk w.drew) w2 from by (repeat' (first | exact Kp.refl _ _ | (refine Kp.trans_no ?_ (MK.out _).kp) | (refine Kp.trans_no ?_ (Kp.alloc _)) | (refine Kp.trans_no ?_ Kp.drew) | (refine Kp.trans_no ?_ k2)))) (fun _ _ z => z)⟩ ⟨_, (show Kp No w (World.alloc (mk w.drew) (.map #[] 0)) from (by (repeat' (first | exact Kp.refl _ _ | (refine Kp.trans_no ?_ (MK.out _).kp) | (refine Kp.trans_no ?_ (Kp.alloc _)) | (refine Kp.trans_no ?_ Kp.drew) | (refine Kp.trans_no ?_ k2))))).size, ownsRow_kp row2 (show Kp No w2 w2 from by (repeat' (first | exact Kp.refl _ _ | (refine Kp.trans_no ?_ (MK.out _).kp) | (refine Kp.trans_no ?_ (Kp.alloc _)) | (refine Kp.trans_no ?_ Kp.drew) | (refine Kp.trans_no ?_ k2)))) (fun _ _ z => z)⟩ (by have h : (World.alloc (mk w.drew) (.map #[] 0)).heap[World.heap (mk w.drew) |>.size]? = some (.map #[] 0) := heap_alloc_new _ _; rw [← (show Kp No (World.alloc (mk w.drew) (.map #[] 0)) w2 from by (repeat' (first | exact Kp.refl _ _ | (refine Kp.trans_no ?_ (MK.out _).kp) | (refine Kp.trans_no ?_ (Kp.alloc _)) | (refine Kp.trans_no ?_ Kp.drew) | (refine Kp.trans_no ?_ k2)))).block _ (heap_lt h) (fun z => z)] at h; exact h) ((show Kp No w (mk w.drew) from (by (repeat' (first | exact Kp.refl _ _ | (refine Kp.trans_no ?_ (MK.out _).kp) | (refine Kp.trans_no ?_ (Kp.alloc _)) | (refine Kp.trans_no ?_ Kp.drew) | (refine Kp.trans_no ?_ k2))))).size) (by (repeat' (first | exact Kp.refl _ _ | (refine Kp.trans_no ?_ (MK.out _).kp) | (refine Kp.trans_no ?_ (Kp.alloc _)) | (refine Kp.trans_no ?_ Kp.drew) | (refine Kp.trans_no ?_ k2))))⟩
    · clear VARS LEV mk1 hmm HD HV LVN
      go_wp2_with fail
      go_meet
      case rel => exact ⟨⟨_, _, _, _, -1⟩, rfl, NqJ.make (x := (World.alloc (mk w2) (.map #[] 0))) (by simp) ⟨_, (show Kp No w w2 from (by (repeat' (first | exact Kp.refl _ _ | (refine Kp.trans_no ?_ (MK.out _).kp) | (refine Kp.trans_no ?_ (Kp.alloc _)) | (refine Kp.trans_no ?_ Kp.drew) | (refine Kp.trans_no ?_ k2))))).size, ownsRow_kp (MK.out w2).row (show Kp No (mk w2) (World.alloc (mk w2) (.map #[] 0)) from by (repeat' (first | exact Kp.refl _ _ | (refine Kp.trans_no ?_ (MK.out _).kp) | (refine Kp.trans_no ?_ (Kp.alloc _)) | (refine Kp.trans_no ?_ Kp.drew) | (refine Kp.trans_no ?_ k2)))) (fun _ _ z => z)⟩ ⟨_, (show Kp No w w.drew from (by (repeat' (first | exact Kp.refl _ _ | (refine Kp.trans_no ?_ (MK.out _).kp) | (refine Kp.trans_no ?_ (Kp.alloc _)) | (refine Kp.trans_no ?_ Kp.drew) | (refine Kp.trans_no ?_ k2))))).size, ownsRow_kp row2 (show Kp No w2 (World.alloc (mk w2) (.map #[] 0)) from by (repeat' (first | exact Kp.refl _ _ | (refine Kp.trans_no ?_ (MK.out _).kp) | (refine Kp.trans_no ?_ (Kp.alloc _)) | (refine Kp.trans_no ?_ Kp.drew) | (refine Kp.trans_no ?_ k2)))) (fun _ _ z => z)⟩ (by have h : (World.alloc (mk w2) (.map #[] 0)).heap[World.heap (mk w2) |>.size]? = some (.map #[] 0) := heap_alloc_new _ _; rw [← (show Kp No (World.alloc (mk w2) (.map #[] 0)) (World.alloc (mk w2) (.map #[] 0)) from by (repeat' (first | exact Kp.refl _ _ | (refine Kp.trans_no ?_ (MK.out _).kp) | (refine Kp.trans_no ?_ (Kp.alloc _)) | (refine Kp.trans_no ?_ Kp.drew) | (refine Kp.trans_no ?_ k2)))).block _ (heap_lt h) (fun z => z)] at h; exact h) ((show Kp No w (mk w2) from (by (repeat' (first | exact Kp.refl _ _ | (refine Kp.trans_no ?_ (MK.out _).kp) | (refine Kp.trans_no ?_ (Kp.alloc _)) | (refine Kp.trans_no ?_ Kp.drew) | (refine Kp.trans_no ?_ k2))))).size) (by (repeat' (first | exact Kp.refl _ _ | (refine Kp.trans_no ?_ (MK.out _).kp) | (refine Kp.trans_no ?_ (Kp.alloc _)) | (refine Kp.trans_no ?_ Kp.drew) | (refine Kp.trans_no ?_ k2))))⟩
    · clear VARS LEV mk1 hmm HD HV LVN
      go_wp2_with fail
      go_meet
      case rel => exact ⟨⟨_, _, _, _, -1⟩, rfl, NqJ.make (x := (mk (World.alloc w2 (.map #[] 0)))) (by simp) ⟨_, (show Kp No w (World.alloc w2 (.map #[] 0)) from (by (repeat' (first | exact Kp.refl _ _ | (refine Kp.trans_no ?_ (MK.out _).kp) | (refine Kp.trans_no ?_ (Kp.alloc _)) | (refine Kp.trans_no ?_ Kp.drew) | (refine Kp.trans_no ?_ k2))))).size, by rw [show w2.heap.size + 1 = (World.heap (World.alloc w2 (.map #[] 0))).size from by simp]; exact ownsRow_kp (MK.out (World.alloc w2 (.map #[] 0))).row (show Kp No (mk (World.alloc w2 (.map #[] 0))) (mk (World.alloc w2 (.map #[] 0))) from by (repeat' (first | exact Kp.refl _ _ | (refine Kp.trans_no ?_ (MK.out _).kp) | (refine Kp.trans_no ?_ (Kp.alloc _)) | (refine Kp.trans_no ?_ Kp.drew) | (refine Kp.trans_no ?_ k2)))) (fun _ _ z => z)⟩ ⟨_, (show Kp No w w.drew from (by (repeat' (first | exact Kp.refl _ _ | (refine Kp.trans_no ?_ (MK.out _).kp) | (refine Kp.trans_no ?_ (Kp.alloc _)) | (refine Kp.trans_no ?_ Kp.drew) | (refine Kp.trans_no ?_ k2))))).size, ownsRow_kp row2 (show Kp No w2 (mk (World.alloc w2 (.map #[] 0))) from by (repeat' (first | exact Kp.refl _ _ | (refine Kp.trans_no ?_ (MK.out _).kp) | (refine Kp.trans_no ?_ (Kp.alloc _)) | (refine Kp.trans_no ?_ Kp.drew) | (refine Kp.trans_no ?_ k2)))) (fun _ _ z => z)⟩ (by have h : (World.alloc w2 (.map #[] 0)).heap[World.heap w2 |>.size]? = some (.map #[] 0) := heap_alloc_new _ _; rw [← (show Kp No (World.alloc w2 (.map #[] 0)) (mk (World.alloc w2 (.map #[] 0))) from by (repeat' (first | exact Kp.refl _ _ | (refine Kp.trans_no ?_ (MK.out _).kp) | (refine Kp.trans_no ?_ (Kp.alloc _)) | (refine Kp.trans_no ?_ Kp.drew) | (refine Kp.trans_no ?_ k2)))).block _ (heap_lt h) (fun z => z)] at h; exact h) ((show Kp No w w2 from (by (repeat' (first | exact Kp.refl _ _ | (refine Kp.trans_no ?_ (MK.out _).kp) | (refine Kp.trans_no ?_ (Kp.alloc _)) | (refine Kp.trans_no ?_ Kp.drew) | (refine Kp.trans_no ?_ k2))))).size) (by (repeat' (first | exact Kp.refl _ _ | (refine Kp.trans_no ?_ (MK.out _).kp) | (refine Kp.trans_no ?_ (Kp.alloc _)) | (refine Kp.trans_no ?_ Kp.drew) | (refine Kp.trans_no ?_ k2))))⟩
    · clear VARS LEV mk1 hmm HD HV LVN
      go_wp2_with fail
      go_meet
      case rel => exact ⟨⟨_, _, _, _, -1⟩, rfl, NqJ.make (x := w2) (by simp) ⟨_, (show Kp No w (World.drew (World.alloc w (.map #[] 0))) from (by (repeat' (first | exact Kp.refl _ _ | (refine Kp.trans_no ?_ (MK.out _).kp) | (refine Kp.trans_no ?_ (Kp.alloc _)) | (refine Kp.trans_no ?_ Kp.drew) | (refine Kp.trans_no ?_ k2))))).size, by rw [show w.heap.size + 1 = (World.heap (World.drew (World.alloc w (.map #[] 0)))).size from by simp]; exact ownsRow_kp (MK.out (World.drew (World.alloc w (.map #[] 0)))).row (show Kp No (mk (World.drew (World.alloc w (.map #[] 0)))) w2 from by (repeat' (first | exact Kp.refl _ _ | (refine Kp.trans_no ?_ (MK.out _).kp) | (refine Kp.trans_no ?_ (Kp.alloc _)) | (refine Kp.trans_no ?_ Kp.drew) | (refine Kp.trans_no ?_ k2)))) (fun _ _ z => z)⟩ ⟨_, (show Kp No w (mk (World.drew (World.alloc w (.map #[] 0)))) from (by (repeat' (first | exact Kp.refl _ _ | (refine Kp.trans_no ?_ (MK.out _).kp) | (refine Kp.trans_no ?_ (Kp.alloc _)) | (refine Kp.trans_no ?_ Kp.drew) | (refine Kp.trans_no ?_ k2))))).size, ownsRow_kp row2 (show Kp No w2 w2 from by (repeat' (first | exact Kp.refl _ _ | (refine Kp.trans_no ?_ (MK.out _).kp) | (refine Kp.trans_no ?_ (Kp.alloc _)) | (refine Kp.trans_no ?_ Kp.drew) | (refine Kp.trans_no ?_ k2)))) (fun _ _ z => z)⟩ (by have h : (World.alloc w (.map #[] 0)).heap[World.heap w |>.size]? = some (.map #[] 0) := heap_alloc_new _ _; rw [← (show Kp No (World.alloc w (.map #[] 0)) w2 from by (repeat' (first | exact Kp.refl _ _ | (refine Kp.trans_no ?_ (MK.out _).kp) | (refine Kp.trans_no ?_ (Kp.alloc _)) | (refine Kp.trans_no ?_ Kp.drew) | (refine Kp.trans_no ?_ k2)))).block _ (heap_lt h) (fun z => z)] at h; exact h) ((Nat.le_refl _)) (by (repeat' (first | exact Kp.refl _ _ | (refine Kp.trans_no ?_ (MK.out _).kp) | (refine Kp.trans_no ?_ (Kp.alloc _)) | (refine Kp.trans_no ?_ Kp.drew) | (refine Kp.trans_no ?_ k2))))⟩
    · clear VARS LEV mk1 hmm HD HV LVN
      go_wp2_with fail
      go_meet
      case rel => exact ⟨⟨_, _, _, _, -1⟩, rfl, NqJ.make (x := (mk w2)) (by simp) ⟨_, (show Kp No w w2 from (by (repeat' (first | exact Kp.refl _ _ | (refine Kp.trans_no ?_ (MK.out _).kp) | (refine Kp.trans_no ?_ (Kp.alloc _)) | (refine Kp.trans_no ?_ Kp.drew) | (refine Kp.trans_no ?_ k2))))).size, ownsRow_kp (MK.out w2).row (show Kp No (mk w2) (mk w2) from by (repeat' (first | exact Kp.refl _ _ | (refine Kp.trans_no ?_ (MK.out _).kp) | (refine Kp.trans_no ?_ (Kp.alloc _)) | (refine Kp.trans_no ?_ Kp.drew) | (refine Kp.trans_no ?_ k2)))) (fun _ _ z => z)⟩ ⟨_, (show Kp No w (World.drew (World.alloc w (.map #[] 0))) from (by (repeat' (first | exact Kp.refl _ _ | (refine Kp.trans_no ?_ (MK.out _).kp) | (refine Kp.trans_no ?_ (Kp.alloc _)) | (refine Kp.trans_no ?_ Kp.drew) | (refine Kp.trans_no ?_ k2))))).size, ownsRow_kp row2 (show Kp No w2 (mk w2) from by (repeat' (first | exact Kp.refl _ _ | (refine Kp.trans_no ?_ (MK.out _).kp) | (refine Kp.trans_no ?_ (Kp.alloc _)) | (refine Kp.trans_no ?_ Kp.drew) | (refine Kp.trans_no ?_ k2)))) (fun _ _ z => z)⟩ (by have h : (World.alloc w (.map #[] 0)).heap[World.heap w |>.size]? = some (.map #[] 0) := heap_alloc_new _ _; rw [← (show Kp No (World.alloc w (.map #[] 0)) (mk w2) from by (repeat' (first | exact Kp.refl _ _ | (refine Kp.trans_no ?_ (MK.out _).kp) | (refine Kp.trans_no ?_ (Kp.alloc _)) | (refine Kp.trans_no ?_ Kp.drew) | (refine Kp.trans_no ?_ k2)))).block _ (heap_lt h) (fun z => z)] at h; exact h) ((Nat.le_refl _)) (by (repeat' (first | exact Kp.refl _ _ | (refine Kp.trans_no ?_ (MK.out _).kp) | (refine Kp.trans_no ?_ (Kp.alloc _)) | (refine Kp.trans_no ?_ Kp.drew) | (refine Kp.trans_no ?_ k2))))⟩
    · clear VARS LEV mk1 hmm HD HV LVN
      go_wp2_with fail
      go_meet
      case rel => exact ⟨⟨_, _, _, _, -1⟩, rfl, NqJ.make (x := w2) (by simp) ⟨_, (show Kp No w (World.drew (World.alloc w (.map #[] 0))) from (by (repeat' (first | exact Kp.refl _ _ | (refine Kp.trans_no ?_ (MK.out _).kp) | (refine Kp.trans_no ?_ (Kp.alloc _)) | (refine Kp.trans_no ?_ Kp.drew) | (refine Kp.trans_no ?_ k2))))).size, by rw [show w.heap.size + 1 = (World.heap (World.drew (World.alloc w (.map #[] 0)))).size from by simp]; exact ownsRow_kp (MK.out (World.drew (World.alloc w (.map #[] 0)))).row (show Kp No (mk (World.drew (World.alloc w (.map #[] 0)))) w2 from by (repeat' (first | exact Kp.refl _ _ | (refine Kp.trans_no ?_ (MK.out _).kp) | (refine Kp.trans_no ?_ (Kp.alloc _)) | (refine Kp.trans_no ?_ Kp.drew) | (refine Kp.trans_no ?_ k2)))) (fun _ _ z => z)⟩ ⟨_, (show Kp No w (mk (World.drew (World.alloc w (.map #[] 0)))) from (by (repeat' (first | exact Kp.refl _ _ | (refine Kp.trans_no ?_ (MK.out _).kp) | (refine Kp.trans_no ?_ (Kp.alloc _)) | (refine Kp.trans_no ?_ Kp.drew) | (refine Kp.trans_no ?_ k2))))).size, ownsRow_kp row2 (show Kp No w2 w2 from by (repeat' (first | exact Kp.refl _ _ | (refine Kp.trans_no ?_ (MK.out _).kp) | (refine Kp.trans_no ?_ (Kp.alloc _)) | (refine Kp.trans_no ?_ Kp.drew) | (refine Kp.trans_no ?_ k2)))) (fun _ _ z => z)⟩ (by have h : (World.alloc w (.map #[] 0)).heap[World.heap w |>.size]? = some (.map #[] 0) := heap_alloc_new _ _; rw [← (show Kp No (World.alloc w (.map #[] 0)) w2 from by (repeat' (first | exact Kp.refl _ _ | (refine Kp.trans_no ?_ (MK.out _).kp) | (refine Kp.trans_no ?_ (Kp.alloc _)) | (refine Kp.trans_no ?_ Kp.drew) | (refine Kp.trans_no ?_ k2)))).block _ (heap_lt h) (fun z => z)] at h; exact h) ((Nat.le_refl _)) (by (repeat' (first | exact Kp.refl _ _ | (refine Kp.trans_no ?_ (MK.out _).kp) | (refine Kp.trans_no ?_ (Kp.alloc _)) | (refine Kp.trans_no ?_ Kp.drew) | (refine Kp.trans_no ?_ k2))))⟩
    · clear VARS LEV mk1 hmm HD HV LVN
      go_wp2_with fail
      go_meet
      case rel => exact ⟨⟨_, _, _, _, -1⟩, rfl, NqJ.make (x := (mk w2)) (by simp) ⟨_, (show Kp No w w2 from (by (repeat' (first | exact Kp.refl _ _ | (refine Kp.trans_no ?_ (MK.out _).kp) | (refine Kp.trans_no ?_ (Kp.alloc _)) | (refine Kp.trans_no ?_ Kp.drew) | (refine Kp.trans_no ?_ k2))))).size, ownsRow_kp (MK.out w2).row (show Kp No (mk w2) (mk w2) from by (repeat' (first | exact Kp.refl _ _ | (refine Kp.trans_no ?_ (MK.out _).kp) | (refine Kp.trans_no ?_ (Kp.alloc _)) | (refine Kp.trans_no ?_ Kp.drew) | (refine Kp.trans_no ?_ k2)))) (fun _ _ z => z)⟩ ⟨_, (show Kp No w (World.drew (World.alloc w (.map #[] 0))) from (by (repeat' (first | exact Kp.refl _ _ | (refine Kp.trans_no ?_ (MK.out _).kp) | (refine Kp.trans_no ?_ (Kp.alloc _)) | (refine Kp.trans_no ?_ Kp.drew) | (refine Kp.trans_no ?_ k2))))).size, ownsRow_kp row2 (show Kp No w2 (mk w2) from by (repeat' (first | exact Kp.refl _ _ | (refine Kp.trans_no ?_ (MK.out _).kp) | (refine Kp.trans_no ?_ (Kp.alloc _)) | (refine Kp.trans_no ?_ Kp.drew) | (refine Kp.trans_no ?_ k2)))) (fun _ _ z => z)⟩ (by have h : (World.alloc w (.map #[] 0)).heap[World.heap w |>.size]? = some (.map #[] 0) := heap_alloc_new _ _; rw [← (show Kp No (World.alloc w (.map #[] 0)) (mk w2) from by (repeat' (first | exact Kp.refl _ _ | (refine Kp.trans_no ?_ (MK.out _).kp) | (refine Kp.trans_no ?_ (Kp.alloc _)) | (refine Kp.trans_no ?_ Kp.drew) | (refine Kp.trans_no ?_ k2)))).block _ (heap_lt h) (fun z => z)] at h; exact h) ((Nat.le_refl _)) (by (repeat' (first | exact Kp.refl _ _ | (refine Kp.trans_no ?_ (MK.out _).kp) | (refine Kp.trans_no ?_ (Kp.alloc _)) | (refine Kp.trans_no ?_ Kp.drew) | (refine Kp.trans_no ?_ k2))))⟩
  case rest =>
  obtain ⟨Q, hs, j0⟩ := hcut
  subst hs
  have J0 : Hid (NqR w p M.n M.lev (QL.bq Q) l l.length (.int .i64 0) wc) := Lib.hid ⟨0, Q, by omega, rfl, rfl, by simpa using j0⟩
  have hni : (M.n : Int) ≤ 256 := by omega
  clear j0 VARS LEV MK mk1 hmm
  generalize (QL.bq Q) = bq at *
  generalize M.n = n at *
  generalize M.lev = lev at *
  go_wp2_with fail
  go_loopg [19] l.length (fun gk s x => NqR w p n lev bq l gk s x)
  case atStart => exact J0.out
  case round =>
    clear J0
    obtain ⟨i, Q, hi, rfl, hbq, j⟩ := hrel
    subst hbq
    by_cases hlt : i < l.length
    · obtain ⟨g1, o1, c1, hv1, _, hcell⟩ := (HD.out wr j.kp).cellAt (by omega)
      have hv2 : ao = some ⟨g1, o1, none⟩ := by injection hv1
      subst hv2
      have hc := hcell i (natV (l.getD i 0)) (by simp [hlt])
      unfold natV at hc
      have hmem : l.getD i 0 ∈ l := by rw [List.getD_eq_getElem?_getD, List.getElem?_eq_getElem hlt]; exact List.getElem_mem hlt
      have hvn := HV.out _ hmem
      have hvl := LVN.out _ hvn
      have et : l.take (i + 1) = l.take i ++ [l.getD i 0] := by rw [List.take_succ_eq_append_getElem hlt]; simp [hlt]
      have hi' := row_full j.inr
      have hlti : (i : Int) < l.length := by omega
      have HI := Lib.hid hi
      have hgl := (j.inr.lt Q.gi rfl).2
      have JP := Lib.hid (j.put (v := l.getD i 0))
      rw [← et] at JP
      clear hcell hv1 hi et hmem
      generalize l.getD i 0 = v at *
      have ho : (v : Int) < n := by omega
      -- the cells
      have q1 : wr.cell? ⟨Q.bq, 1, none⟩ = some (.slice (some ⟨Q.gi, 0, none⟩) n n) := by rw [cell_of_row _ _ _ _ _ _ j.str]; rfl
      have q2 : wr.cell? ⟨Q.bq, 2, none⟩ = some (.slice (some ⟨Q.gl, 0, none⟩) n n) := by rw [cell_of_row _ _ _ _ _ _ j.str]; rfl
      have q3 : wr.cell? ⟨Q.bq, 3, none⟩ = some (.int .i64 Q.last) := by rw [cell_of_row _ _ _ _ _ _ j.str]; rfl
      have z3 : wr.frozen? ⟨Q.bq, 3, none⟩ = false := by simp [World.frozen?, j.str]
      have zi : wr.frozen? ⟨Q.gi, v, none⟩ = false := by simp [World.frozen?, hi']
      have ci : wr.cell? ⟨Q.gi, v, none⟩ = some (.bool (decide (v ∈ l.take i))) := by rw [cell_of_row _ _ _ _ _ _ hi']; simp [InRow, hvn]
      have cl : wr.cell? ⟨Q.gl, v, none⟩ = some (.int .i64 (lev v : Int)) := by rw [cell_of_row _ _ _ _ _ _ j.lvr]; simp [natV, hvn]
      have lq := heap_lt j.str
      have ll := heap_lt j.lvr
      have n1 : ¬ Q.gi = Q.bq := fun e => by have := j.str; rw [← e, hi'] at this; simp at this
      have n2 : ¬ Q.gl = Q.bq := fun e => by have := j.str; rw [← e, j.lvr] at this; simp at this
      have n3 : ¬ Q.gl = Q.gi := fun e => by have := hi'; rw [← e, j.lvr] at this; simp at this
      have n1' : ¬ Q.bq = Q.gi := fun e => n1 e.symm
      have hlvi : (lev v : Int) < 256 := by omega
      generalize decide (v ∈ l.take i) = bu at *
      clear hi' j hvn hvl
      by_cases hm : (lev v : Int) ≤ Q.last
      · rw [if_pos hm] at JP
        have JN : Hid (∀ d, NqR w p n lev Q.bq l (l.length - (i + 1)) (.int .i64 ((i + 1 : Nat) : Int)) (((wr.setCell ⟨Q.gi, v, none⟩ (.bool true)).setCell ⟨Q.bq, 3, none⟩ (.int .i64 Q.last)).drewN d)) := Lib.hid (fun d => ⟨i + 1, _, by have := HI.out; omega, rfl, rfl, JP.out.no (Kp.drewN d)⟩)
        clear JP
        generalize (lev v : Int) = lv at *
        go_upto_region 6 with fail
        go_region
        go_wp2_with fail
        go_roundg (l.length - (i + 1))
        case measure => have := HI.out; omega
        case rel => exact JN.out 1
      · rw [if_neg hm] at JP
        have hm' : Q.last < (lev v : Int) := by omega
        have JN : Hid (∀ d, NqR w p n lev Q.bq l (l.length - (i + 1)) (.int .i64 ((i + 1 : Nat) : Int)) (((wr.setCell ⟨Q.gi, v, none⟩ (.bool true)).setCell ⟨Q.bq, 3, none⟩ (.int .i64 (lev v : Int))).drewN d)) := Lib.hid (fun d => ⟨i + 1, { Q with last := (lev v : Int) }, by have := HI.out; omega, rfl, rfl, JP.out.no (Kp.drewN d)⟩)
        clear JP
        generalize (lev v : Int) = lv at *
        go_upto_region 6 with fail
        go_region
        go_wp2_with fail
        go_roundg (l.length - (i + 1))
        case measure => have := HI.out; omega
        case rel => exact JN.out 1
    · obtain rfl : i = l.length := by omega
      rw [List.take_length] at j
      have RET : Hid (NqPost w p n lev l (.returned (ptr Q.bq)) wr) := Lib.hid ⟨Q, rfl, j⟩
      have hge : ¬ (l.length : Int) < l.length := by omega
      clear hi j hlt
      go_wp2_with fail
      go_ret
      exact RET.out

/-- The state behind 'newQuantifier'. -/
theorem NqJ.sk {w x : World} {p : Nat} {M : Mgr} {L : Lay} {Q : QL} {l : List Nat} (R : Rep w p M L) (j : NqJ w p M.n M.lev Q l x) : Sk x p L Q.bs (Q.X p M.n l M.lev) (PMemo l Q.bs) x M L := by
  have hi := row_full j.inr
  have off : ∀ b, w.heap.size ≤ b → ¬ L.at p b := fun b hb h => by have := R.lt b h; omega
  have hgi := (j.inr.lt Q.gi rfl).1
  refine ⟨R.no j.kp, Kp.refl _ _, fun _ h => .inl h, ⟨fun _ => none, ⟨#[], 0, j.mp, [], by simp, fun k => rfl⟩, fun x r h => by cases h⟩, heap_lt j.mp, off _ j.ns, fun b o hb => ?_⟩
  rcases List.mem_cons.1 hb with e | hb
  · cases e
    exact ⟨j.str, off _ j.nq, fun e => by have := j.str; rw [e, j.mp] at this; simp at this⟩
  · rcases List.mem_cons.1 hb with e | hb
    · cases e
      exact ⟨hi, off _ hgi, fun e => by have := hi; rw [e, j.mp] at this; simp at this⟩
    · rcases List.mem_cons.1 hb with e | hb
      · cases e
        exact ⟨j.lvr, off _ j.nl, fun e => by have := j.lvr; rw [e, j.mp] at this; simp at this⟩
      · cases hb

end Go.Proofs.YtdgnbbmgcgfibaaGreatDoor

namespace Go.Proofs.YtdgnbbmgcgfibaaGreatDoor
open Go.RowKit

theorem Mgr.Pro.ops {M M' : Mgr} {l : List Nat} {F : Bfn} {r N : Nat} (h : M.WF) (pr : Mgr.Pro M l F M' r) (ls : Listed (M.ProF l F) N) : Mgr.OpS M (exQ l F) N (M'.show r) (r : Int) :=
  Mgr.show_ops (B := (M', r)) h pr.ad.wf pr.ad.ext pr.st pr.sem (pr.ad.len ls)

theorem natInt (l : List Nat) : (l.map Int.ofNat).map intV = l.map natV := by rw [List.map_map]; rfl

/-- What is left of the state when the memo is forgotten. -/
theorem Sk.sd {w w1 w2 : World} {p bs : Nat} {L L2 : Lay} {X : List (Nat × Obj)} {I : Mgr → World → Prop} {M2 : Mgr} (k : Kp No w w1) (hb : w.heap.size ≤ bs) (s : Sk w1 p L bs X I w2 M2 L2) : Sd w p L w2 M2 L2 :=
  ⟨s.rep, (k.no_trans s.kp).mono (fun x hx h => h.resolve_right (by omega)), fun x hx => by
    rcases s.fr x hx with h | h
    · exact .inl h
    · right; have := k.size; omega⟩

/-- What 'AndExists' leaves. -/
def AxPost (p : Nat) (M : Mgr) (L : Lay) (l : List Nat) (F : Bfn) (w : World) (e : Ending) (w' : World) : Prop := ∃ (M' : Mgr) (r : Nat), Ret p L w (M'.show r) (.int .i64 (r : Int)) e w' ∧ Mgr.Pro M l F M' r

set_option maxRecDepth 100000 in
set_option maxHeartbeats 4000000 in
theorem AndExists_ok {p : Nat} {M : Mgr} {L : Lay} (f g : Nat) (l : List Nat) (hl : l.length ≤ 1000000) (hlv : ∀ v, v ∈ l → v < M.n) (hf : M.valid (f : Int) = true) (hg : M.valid (g : Int) = true) {dv : Value} {w : World} (R : Rep w p M L) (hn : M.n ≤ 256) (hd : SrcAt w dv 1 l.length (l.map natV))
    (hb : ∀ M', Mgr.Adds M M' (M.ProF l (andF M f g)) → M'.nodes.length ≤ big) :
    Calls Tryz.prog 36 #[ptr p, .int .i64 (f : Int), .int .i64 (g : Int), dv] w (AxPost p M L l (andF M f g) w) := by
  have VF := Lib.hid (valid_as (f : Int) true R hf)
  have VG := Lib.hid (valid_as (g : Int) true R hg)
  have VV := Lib.hid (variables_ok (l.map Int.ofNat) (by rw [List.length_map]; exact hl) R (dv := dv) (by rw [List.length_map, natInt]; exact hd))
  rw [varsB_of hlv] at VV
  have NQ := Lib.hid (newQuantifier_ok l hl hlv R hn hd)
  have sf : M.stored f := by obtain ⟨k, hk, sk, _⟩ := Mgr.valid_nat R.wf hf; rw [show f = k from by omega]; exact sk
  have sg : M.stored g := by obtain ⟨k, hk, sk, _⟩ := Mgr.valid_nat R.wf hg; rw [show g = k from by omega]; exact sk
  have PR : Hid (∀ (x : World) (Q : QL), NqJ w p M.n M.lev Q l x → Calls Tryz.prog 72 #[ptr Q.bq, .int .i64 (f : Int), .int .i64 (g : Int)] x (QPost p L Q.bs l (Q.X p M.n l M.lev) x M (andF M f g))) := Lib.hid (fun x Q j =>
    product_ok (fun v hv _ => j.la v hv) hn (M.n + 1) M L _ f g x (fun _ h => h) (j.sk R) rfl (fun _ => rfl) sf sg (by omega) (by omega) hb)
  obtain ⟨ao, cp, rfl⟩ := hd.form
  clear hd R hlv sf sg hb hf hg
  go_enter Tryz.func36, Tryz.ntmps36
  go_wp2_with fail
  refine VF.out.mono ?_
  rintro e w' ⟨rfl, rfl⟩
  go_wp2_with fail
  refine VG.out.mono ?_
  rintro e w' ⟨rfl, rfl⟩
  go_wp2_with fail
  refine VV.out.mono ?_
  rintro e w' ⟨rfl, rfl⟩
  clear VF VG VV
  go_wp2_with fail
  refine NQ.out.mono ?_
  rintro e w1 ⟨Q, rfl, j⟩
  have J := Lib.hid j
  have PC := Lib.hid (PR.out w1 Q j)
  clear j NQ PR
  go_wp2_with fail
  refine PC.out.mono ?_
  rintro e w2 ⟨M2, r, L2, rfl, s2, pr⟩
  have D2 := Lib.hid (Sk.sd J.out.kp J.out.ns s2)
  have P2 := Lib.hid pr
  have SH := Lib.hid (show_ok r s2.rep pr.st)
  clear s2 pr PC
  go_wp2_with fail
  refine SH.out.mono ?_
  intro e w3 h3
  obtain ⟨rfl, L3, d3⟩ := D2.out.step h3
  have RET : Hid (AxPost p M L l (andF M f g) w (.returned (.int .i64 (r : Int))) w3) := Lib.hid ⟨M2, r, d3.ret _, P2.out⟩
  clear h3 d3 D2 P2 SH
  go_wp2_with fail
  go_ret
  exact RET.out

section
variable {p n c : Nat} {M : Mgr} {L : Lay} {wr : World} {B : List (Int × Bfn)} {f g : Int} {F G : Bfn}

theorem andF_eq (b : Qk n c M B) (hf : (f, F) ∈ B) (hg : (g, G) ∈ B) : ∃ fn gn : Nat, f = (fn : Int) ∧ g = (gn : Int) ∧ M.valid (fn : Int) = true ∧ M.valid (gn : Int) = true ∧ andF M fn gn = fun a => F a && G a := by
  obtain ⟨v1, s1⟩ := b.at hf
  obtain ⟨v2, s2⟩ := b.at hg
  obtain ⟨fn, rfl, _⟩ := Mgr.valid_nat b.wf v1
  obtain ⟨gn, rfl, _⟩ := Mgr.valid_nat b.wf v2
  refine ⟨fn, gn, rfl, rfl, v1, v2, funext fun a => ?_⟩
  unfold andF
  rw [← s1, ← s2, Int.toNat_natCast, Int.toNat_natCast]

theorem AndExQ (R : Rep wr p M L) (b : Qk n c M B) (hf : (f, F) ∈ B) (hg : (g, G) ∈ B) (l : List Nat) (hl : l.length ≤ 1000000) (hlv : ∀ v, v ∈ l → v < n) (hn : n ≤ 256) {dv : Value} (hd : SrcAt wr dv 1 l.length (l.map natV)) {N : Nat}
    (hN : ∀ M : Mgr, M.n = n → M.Plain → Listed (M.ProF l (fun a => F a && G a)) N) (hc : c + N ≤ 4000000000000) :
    Calls Tryz.prog 36 #[ptr p, .int .i64 f, .int .i64 g, dv] wr (OpQ p n (c + N) L wr (exQ l (fun a => F a && G a)) B) := by
  obtain ⟨fn, gn, rfl, rfl, v1, v2, e⟩ := andF_eq b hf hg
  have ls := hN M b.nn b.pl
  rw [← e] at ls
  have := b.cost
  refine (AndExists_ok fn gn l hl (fun v hv => by rw [b.nn]; exact hlv v hv) v1 v2 R (by rw [b.nn]; exact hn) hd (fun M' ad => by have := ad.len ls; unfold big; omega)).mono ?_
  rintro x w' ⟨M', r, ret, pr⟩
  have o := pr.ops b.wf ls
  rw [e] at o
  exact OpQ.of b o (Nat.le_refl _) ret

end

end Go.Proofs.YtdgnbbmgcgfibaaGreatDoor

namespace Go.Proofs.YtdgnbbmgcgfibaaGreatDoor
open Go.RowKit

/-- The variables in the places of the variables, behind i steps. -/
def rnI (n : Nat) (fr tg : List Nat) (i : Nat) : List Nat := (List.range i).foldl (fun T j => T.set (fr.getD j 0) (tg.getD j 0)) (List.range n)
theorem rnI_succ (n : Nat) (fr tg : List Nat) (i : Nat) : rnI n fr tg (i + 1) = (rnI n fr tg i).set (fr.getD i 0) (tg.getD i 0) := by
  unfold rnI; rw [List.range_succ, List.foldl_append]; rfl
theorem rnI_len (n : Nat) (fr tg : List Nat) : ∀ i, (rnI n fr tg i).length = n
  | 0 => by simp [rnI]
  | i + 1 => by rw [rnI_succ, List.length_set, rnI_len n fr tg i]
theorem rnI_lt {n : Nat} {fr tg : List Nat} (ht : ∀ v, v ∈ tg → v < n) : ∀ i, i ≤ tg.length → ∀ v, v < n → (rnI n fr tg i).getD v 0 < n
  | 0, _, v, hv => by simp [rnI, hv]
  | i + 1, hi, v, hv => by
    rw [rnI_succ]
    have ih := rnI_lt (fr := fr) ht i (by omega) v hv
    have hu : tg.getD i 0 < n := ht _ (by rw [List.getD_eq_getElem?_getD, List.getElem?_eq_getElem (by omega)]; exact List.getElem_mem (by omega))
    rw [List.getD_eq_getElem?_getD, List.getElem?_set]
    have hl := rnI_len n fr tg i
    by_cases e : fr.getD i 0 = v
    · rw [if_pos e, if_pos (by omega)]; exact hu
    · rw [if_neg e, ← List.getD_eq_getElem?_getD]; exact ih
def rnT (n : Nat) (fr tg : List Nat) : Nat → Nat := fun v => (rnI n fr tg fr.length).getD v 0

theorem rowForm {w : World} {B e size n : Nat} {v : Value} {xs : List Value} (h : w.ownsRow B e size v n xs) : ∃ a c, v = .slice a n c := by
  rcases h.2 with ⟨rfl, rfl⟩ | ⟨g, cap, cur, rfl, _⟩
  · exact ⟨none, 0, rfl⟩
  · exact ⟨_, cap, rfl⟩
/-- The state while a renamer is made. -/
structure RnJ (w : World) (p br bs : Nat) (v : Value) (T : List Nat) (x : World) : Prop where
  str : x.heap[br]? = some (.cells #[ptr p, v, .map (some bs)] 197 (0, 0))
  row : x.ownsRow w.heap.size 3 1 v T.length (T.map natV)
  mp : x.heap[bs]? = some (.map #[] 0)
  kp : Kp No w x
  nr : w.heap.size ≤ br
  ns : w.heap.size ≤ bs
section
variable {w x y : World} {p br bs : Nat} {v : Value} {T : List Nat}
theorem RnJ.no (j : RnJ w p br bs v T x) (k : Kp No x y) : RnJ w p br bs v T y :=
  ⟨by rw [k.block _ (heap_lt j.str) (fun z => z)]; exact j.str, ownsRow_kp j.row k (fun _ _ z => z), by rw [k.block _ (heap_lt j.mp) (fun z => z)]; exact j.mp, j.kp.trans_no k, j.nr, j.ns⟩
theorem RnJ.off (j : RnJ w p br bs v T x) : ∀ b, v.ownBlock = some b → b ≠ br ∧ b ≠ bs ∧ w.heap.size ≤ b := fun b hb => by
  obtain ⟨cur, hc⟩ := ownsRow_block j.row hb
  refine ⟨fun e => ?_, fun e => ?_, (j.row.lt b hb).1⟩
  · rw [e, j.str] at hc; simp at hc
  · rw [e, j.mp] at hc; simp at hc
theorem RnJ.grow {v' : Value} {k : Nat} {A : World} (j : RnJ w p br bs v T x) (kA : Kp No x A) (hg : A.grownBy y v.ownBlock) (hown : y.ownsRow w.heap.size 3 1 v' (T.length + 1) (T.map natV ++ [.int .i64 (k : Int)])) :
    RnJ w p br bs v' (T ++ [k]) (y.setCell ⟨br, 1, none⟩ v') ∧ y.heap[br]? = some (.cells #[ptr p, v, .map (some bs)] 197 (0, 0)) := by
  have kg : Kp (fun z => v.ownBlock = some z) x y := grown_no kA hg
  have s1 : y.heap[br]? = some (.cells #[ptr p, v, .map (some bs)] 197 (0, 0)) := by rw [kg.block _ (heap_lt j.str) (fun e => (j.off br e).1 rfl)]; exact j.str
  have m1 : y.heap[bs]? = some (.map #[] 0) := by rw [kg.block _ (heap_lt j.mp) (fun e => (j.off bs e).2.1 rfl)]; exact j.mp
  have hne : bs ≠ br := fun e => by rw [e, s1] at m1; simp at m1
  refine ⟨⟨?_, ?_, ?_, ?_, j.nr, j.ns⟩, s1⟩
  · rw [setCell_heap s1]; rfl
  · rw [List.length_append, List.map_append]
    refine ownsRow_kp hown (Kp.setCell _ _) (fun b hb e => ?_)
    obtain ⟨cur, hc⟩ := ownsRow_block hown hb
    rw [show b = br from e, s1] at hc; simp at hc
  · rw [Below.heap_setCell _ _ _ _ hne]; exact m1
  · exact (j.kp.trans (A' := fun z => v.ownBlock = some z) (fun z hz => .inr (j.off z hz).2.2) kg).trans (A' := fun z => z = br) (fun z e => .inr (by rw [e]; exact j.nr)) ((Kp.setCell _ _).mono (fun _ _ e => e))
theorem RnJ.put {gt n ct a u : Nat} (j : RnJ w p br bs (.slice (some ⟨gt, 0, none⟩) n ct) T x) (hn : T.length = n) : RnJ w p br bs (.slice (some ⟨gt, 0, none⟩) n ct) (T.set a u) (x.setCell ⟨gt, a, none⟩ (.int .i64 (u : Int))) := by
  obtain ⟨o1, o2, o3⟩ := j.off gt rfl
  refine ⟨?_, ?_, ?_, ?_, j.nr, j.ns⟩
  · rw [Below.heap_setCell _ _ _ _ (Ne.symm o1)]; exact j.str
  · have := j.row
    rw [hn] at this
    have := ownsRow_put this a (.int .i64 (u : Int))
    rw [List.length_set, hn, List.map_set]
    exact this
  · rw [Below.heap_setCell _ _ _ _ (Ne.symm o2)]; exact j.mp
  · exact j.kp.trans (A' := fun z => z = gt) (fun z e => .inr (by rw [e]; exact o3)) ((Kp.setCell _ _).mono (fun _ _ e => e))
end

def RnR1 (w : World) (p br bs n gk : Nat) (s : Value) (x : World) : Prop := ∃ k v, k + gk = n ∧ s = .int .i64 (k : Int) ∧ RnJ w p br bs v (List.range k) x
def RnR2 (w : World) (p br bs n : Nat) (fr tg : List Nat) (gt ct gk : Nat) (s : Value) (x : World) : Prop := ∃ i, i + gk = fr.length ∧ s = .int .i64 (i : Int) ∧ RnJ w p br bs (.slice (some ⟨gt, 0, none⟩) n ct) (rnI n fr tg i) x

def RxPost (p : Nat) (M : Mgr) (L : Lay) (t : Nat → Nat) (F : Bfn) (w : World) (e : Ending) (w' : World) : Prop := ∃ (M' : Mgr) (r : Nat), Ret p L w (M'.show r) (.int .i64 (r : Int)) e w' ∧ Mgr.Ren M t F M' r

set_option maxRecDepth 1000000 in
set_option maxHeartbeats 8000000 in
theorem Rename_ok {p : Nat} {M : Mgr} {L : Lay} (f : Nat) (fr tg : List Nat) (hl : fr.length = tg.length) (hll : fr.length ≤ 1000000) (hfr : ∀ v, v ∈ fr → v < M.n) (hto : ∀ v, v ∈ tg → v < M.n) (nd : fr.Nodup) (hf : M.valid (f : Int) = true) {fv tv : Value} {w : World} (R : Rep w p M L) (hn : M.n ≤ 256) (h0 : 0 < M.n)
    (hd : SrcAt w fv 1 fr.length (fr.map natV)) (hd2 : SrcAt w tv 1 tg.length (tg.map natV))
    (hb : ∀ M', Mgr.Adds M M' (M.RenF (rnT M.n fr tg) (M.sem f)) → M'.nodes.length ≤ big) :
    Calls Tryz.prog 74 #[ptr p, .int .i64 (f : Int), fv, tv] w (RxPost p M L (rnT M.n fr tg) (M.sem f) w) := by
  obtain ⟨i0, hi0, hz0, hz1, hz2⟩ := info_parts info_int
  have VF := Lib.hid (valid_as (f : Int) true R hf)
  have V1 := Lib.hid (variables_ok (fr.map Int.ofNat) (by rw [List.length_map]; exact hll) R (dv := fv) (by rw [List.length_map, natInt]; exact hd))
  rw [varsB_of hfr] at V1
  have V2 := Lib.hid (variables_ok (tg.map Int.ofNat) (by rw [List.length_map]; omega) R (dv := tv) (by rw [List.length_map, natInt]; exact hd2))
  rw [varsB_of hto] at V2
  have RP := Lib.hid (repeats_ok fr hll hfr R hn hd false ⟨fun h => (by cases h), fun h => absurd nd h⟩)
  have hmm := @run_makeMap Tryz.prog
  have VARS := Lib.hid (fun (y : World) (ky : Kp No w y) => vars_ok (R.no ky))
  unfold natV at VARS
  have SF : Hid (∀ y, Kp No w y → SrcAt y fv 1 fr.length (fr.map natV)) := Lib.hid (fun y ky => hd.no ky)
  have ST : Hid (∀ y, Kp No w y → SrcAt y tv 1 tg.length (tg.map natV)) := Lib.hid (fun y ky => hd2.no ky)
  have FRL := Lib.hid hfr
  have TOL := Lib.hid hto
  have RR := Lib.hid R
  have HB := Lib.hid hb
  have sf : M.stored f := by obtain ⟨k, hk, sk, _⟩ := Mgr.valid_nat R.wf hf; rw [show f = k from by omega]; exact sk
  have SFT := Lib.hid sf
  obtain ⟨ao, cp, rfl⟩ := hd.form
  obtain ⟨bo, dp, htv⟩ := hd2.form
  rw [← hl] at htv
  subst htv
  have hli : (fr.length : Int) ≤ 1000000 := by omega
  have HLT := Lib.hid hl
  have hni : (M.n : Int) ≤ 256 := by omega
  have HN0 := Lib.hid h0
  have HN256 := Lib.hid hn
  clear hd hd2 R hfr hto nd hf hb sf hl h0
  go_enter Tryz.func74, Tryz.ntmps74
  go_wp2_with fail
  refine VF.out.mono ?_
  rintro e w' ⟨rfl, rfl⟩
  clear VF
  go_wp2_with fail
  refine V1.out.mono ?_
  rintro e w' ⟨rfl, rfl⟩
  clear V1
  go_wp2_with fail
  refine V2.out.mono ?_
  rintro e w' ⟨rfl, rfl⟩
  clear V2
  go_wp2_with fail
  refine RP.out.mono ?_
  rintro e w1 ⟨rfl, k1⟩
  have J0 : Hid (RnJ w p (w1.heap.size + 1) w1.heap.size (.slice none 0 0) [] ((w1.alloc (.map #[] 0)).alloc (.cells #[ptr p, .slice none 0 0, .map (some w1.heap.size)] 197))) := Lib.hid (by
    have hs := k1.size
    refine ⟨?_, World.ownsRow_nil _ _ _ _, ?_, (k1.trans_no (Kp.alloc _)).trans_no (Kp.alloc _), by omega, by omega⟩
    · have := heap_alloc_new (w1.alloc (.map #[] 0)) (.cells #[ptr p, .slice none 0 0, .map (some w1.heap.size)] 197)
      simpa using this
    · rw [Below.heap_alloc _ _ _ (by simp)]; exact heap_alloc_new _ _)
  have VW := Lib.hid (VARS.out _ J0.out.kp)
  clear RP k1
  go_wp2_with fail
  refine VW.out.mono ?_
  rintro e w' ⟨rfl, rfl⟩
  clear VW VARS hmm
  have JA : Hid (RnR1 w p (w1.heap.size + 1) w1.heap.size M.n M.n (.int .i64 0) ((w1.alloc (.map #[] 0)).alloc (.cells #[ptr p, .slice none 0 0, .map (some w1.heap.size)] 197))) := Lib.hid ⟨0, _, by omega, rfl, J0.out⟩
  clear J0
  generalize ((w1.alloc (.map #[] 0)).alloc (.cells #[ptr p, .slice none 0 0, .map (some w1.heap.size)] 197)) = wS at *
  obtain ⟨br, hbr⟩ : ∃ x, w1.heap.size + 1 = x := ⟨_, rfl⟩
  rw [hbr] at JA ⊢
  generalize w1.heap.size = bs at *
  clear hbr
  generalize hnn : M.n = n at *
  have HNN := Lib.hid hnn
  clear hnn
  go_wp2_with fail
  go_loopg [47] n (fun gk s x => RnR1 w p br bs n gk s x)
  case atStart => exact JA.out
  case round =>
    clear JA
    obtain ⟨k, v, hk, rfl, j⟩ := hrel
    have row : wr.ownsRow w.heap.size 3 1 v k ((List.range k).map natV) := by simpa using j.row
    by_cases hlt : k < n
    · have q1 : wr.cell? ⟨br, 1, none⟩ = some v := by rw [cell_of_row _ _ _ _ _ _ j.str]; rfl
      have lq := heap_lt j.str
      have hsz := j.kp.size
      obtain ⟨a5, c5, rfl⟩ := rowForm row
      have HJ := Lib.hid j
      have HK := Lib.hid hk
      have hlti : (k : Int) < (n : Int) := by omega
      have hk256 : k < 256 := by omega
      clear j hk
      go_upto_region 8 with (at_builtin; refine wpList_append_lies _ rfl (.tmp 54) (.tmp 56) _ rfl w.heap.size 3 i0 _ 1 8 Tryz.underlying94 hi0 hz0 hz1 hz2 rfl (by omega) (.slice a5 k c5) k ((List.range k).map natV) rfl (row.alloc _) ⟨wr.heap.size, 0, none⟩ 1 1 [.int .i64 (k : Int)] rfl rfl (World.news_of_block (heap_alloc_new _ _)) (by simp [Value.oneCell']) (by omega) (by unfold maxLen; omega) (by omega) (by simp; omega) (wr.heap.size + 1) (by simp) ?_; intro g5 cap5 w3 hown hgrow hat hlt2; obtain ⟨jn, s3⟩ := HJ.out.grow (k := k) (Kp.alloc _) hgrow (v' := .slice (some ⟨g5, 0, none⟩) (k + 1) cap5) (by simpa using hown); have q3 : w3.cell? ⟨br, 1, none⟩ = some (.slice a5 k c5) := (by rw [cell_of_row _ _ _ _ _ _ s3]; rfl); have z3 : w3.frozen? ⟨br, 1, none⟩ = false := (by simp [World.frozen?, s3]); have l3 := heap_lt s3; have JNN := Lib.hid jn; clear hown hgrow hat hlt2 jn s3)
      have JN : Hid (RnR1 w p br bs n (n - (k + 1)) (.int .i64 ((k + 1 : Nat) : Int)) (w3.setCell ⟨br, 1, none⟩ (.slice (some ⟨g5, 0, none⟩) (k + 1) cap5))) := Lib.hid ⟨k + 1, _, by have := HK.out; omega, rfl, by rw [List.range_succ]; exact JNN.out⟩
      clear JNN HJ row q1 lq
      go_wp2_with fail
      go_roundg (n - (k + 1))
      case measure => have := HK.out; omega
      case rel => exact JN.out
    · obtain rfl : k = n := by omega
      have hge : ¬ (k : Int) < (k : Int) := by omega
      obtain ⟨gt, ct, rfl, hct, _, _, _, _⟩ := ownsRow_open row HN0.out
      have HJ : Hid (RnR2 w p br bs k fr tg gt ct fr.length (.int .i64 0) wr) := Lib.hid ⟨0, by omega, rfl, j⟩
      have hcti : (k : Int) ≤ (ct : Int) := by omega
      clear j row hk hlt
      go_wp2_with fail
      go_loopg [63] fr.length (fun gk s x => RnR2 w p br bs k fr tg gt ct gk s x)
      case atStart => exact HJ.out
      case round =>
        clear HJ
        obtain ⟨i, hi, rfl, j⟩ := hrel
        by_cases hlt : i < fr.length
        · have hlt2 : i < tg.length := by have := HLT.out; omega
          obtain ⟨g1, o1, c1, hv1, _, hcell⟩ := (SF.out wr j.kp).cellAt (by omega)
          have hv2 : ao = some ⟨g1, o1, none⟩ := by injection hv1
          subst hv2
          obtain ⟨g2, o2, c2, hv3, _, hcell2⟩ := (ST.out wr j.kp).cellAt (by omega)
          have hv4 : bo = some ⟨g2, o2, none⟩ := by injection hv3
          subst hv4
          have hc := hcell i (natV (fr.getD i 0)) (by simp [hlt])
          have hc2 := hcell2 i (natV (tg.getD i 0)) (by simp [hlt2])
          unfold natV at hc hc2
          have ha : fr.getD i 0 < k := FRL.out (fr.getD i 0) (by rw [List.getD_eq_getElem?_getD, List.getElem?_eq_getElem hlt]; exact List.getElem_mem hlt)
          have hu : tg.getD i 0 < k := TOL.out (tg.getD i 0) (by rw [List.getD_eq_getElem?_getD, List.getElem?_eq_getElem hlt2]; exact List.getElem_mem hlt2)
          have JP := Lib.hid (j.put (a := fr.getD i 0) (u := tg.getD i 0) (rnI_len k fr tg i))
          rw [← rnI_succ] at JP
          generalize fr.getD i 0 = a at *
          generalize tg.getD i 0 = u at *
          have q1 : wr.cell? ⟨br, 1, none⟩ = some (.slice (some ⟨gt, 0, none⟩) k ct) := by rw [cell_of_row _ _ _ _ _ _ j.str]; rfl
          have lq := heap_lt j.str
          have hr := j.row
          rw [rnI_len] at hr
          obtain ⟨g', c', hv', _, _, _, hcr, hzr⟩ := ownsRow_open hr HN0.out
          cases hv'
          have hlg := (hr.lt gt rfl).2
          have hlen : a < (rnI k fr tg i).length := by rw [rnI_len]; exact ha
          have ci := hcr a (natV (rnI k fr tg i)[a]) (by rw [List.getElem?_map, List.getElem?_eq_getElem hlen]; rfl)
          have zi := hzr a
          generalize natV (rnI k fr tg i)[a] = old at *
          have HI := Lib.hid hi
          have JN : Hid (∀ d, RnR2 w p br bs k fr tg gt ct (fr.length - (i + 1)) (.int .i64 ((i + 1 : Nat) : Int)) ((wr.setCell ⟨gt, a, none⟩ (.int .i64 (u : Int))).drewN d)) := Lib.hid (fun d => ⟨i + 1, by have := HI.out; omega, rfl, JP.out.no (Kp.drewN d)⟩)
          have hlti : (i : Int) < fr.length := by omega
          have hai : (a : Int) < (k : Int) := by omega
          clear hcell hv1 hcell2 hv3 hi j hr hcr hzr JP hu ha hlt2 hlen
          go_upto_region 12 with fail
          go_region
          go_wp2_with fail
          go_roundg (fr.length - (i + 1))
          case measure => have := HI.out; omega
          case rel => exact JN.out 1
        · obtain rfl : i = fr.length := by omega
          have hge : ¬ (fr.length : Int) < fr.length := by omega
          have hlr := rnI_len k fr tg fr.length
          have hrow := j.row
          rw [hlr] at hrow
          obtain ⟨cur, hgt, hcur⟩ : ∃ cur, wr.heap[gt]? = some (.cells cur 3 (0, 0)) ∧ ∀ v, v < k → cur[v]? = some (natV (rnT k fr tg v)) := by
            rcases hrow.2 with ⟨hx, _⟩ | ⟨g', cap', cur, hv, _, hg, h1, h2, h3, h4⟩
            · cases hx
            · cases hv
              refine ⟨cur, hg, fun v hv => ?_⟩
              have h5 : (cur.toList.take (k * 1))[v]? = some (natV (rnT k fr tg v)) := by
                rw [h4, List.getElem?_map, List.getElem?_eq_getElem (by omega)]
                show some (natV _) = some (natV _)
                unfold rnT
                rw [List.getD_eq_getElem?_getD, List.getElem?_eq_getElem (by omega)]; rfl
              rw [List.getElem?_take, if_pos (by omega)] at h5
              simpa using h5
          have off : ∀ b, w.heap.size ≤ b → ¬ L.at p b := fun b hb h => by have := RR.out.lt b h; omega
          have SKS : Hid (Sk wr p L bs (rnX p br bs gt k ct cur) (RnMemo (rnT k fr tg) bs) wr M L) := Lib.hid (by
            refine ⟨RR.out.no j.kp, Kp.refl _ _, fun _ h => .inl h, ⟨fun _ => none, ⟨#[], 0, j.mp, [], by simp, fun k => rfl⟩, fun x r h => by cases h⟩, heap_lt j.mp, off _ j.ns, fun b o hb => ?_⟩
            rcases List.mem_cons.1 hb with e | hb
            · cases e
              exact ⟨j.str, off _ j.nr, fun e => by have := j.str; rw [e, j.mp] at this; simp at this⟩
            · have e := List.mem_singleton.1 hb
              cases e
              exact ⟨hgt, off _ (hrow.lt gt rfl).1, fun e => by have := hgt; rw [e, j.mp] at this; simp at this⟩)
          have AP := Lib.hid (apply_ok (ct := ct) hcur (fun v hv => rnI_lt TOL.out fr.length (by have := HLT.out; omega) v hv) HN256.out (k + 1) M L (rnX p br bs gt k ct cur) f wr (fun _ h => h) SKS.out HNN.out SFT.out (by omega) HB.out)
          have KJ := Lib.hid j.kp
          have NS := Lib.hid j.ns
          clear hi j hlt hrow hcur hgt off hlr SKS
          go_wp2_with fail
          refine AP.out.mono ?_
          rintro e w2 ⟨M2, r, L2, rfl, s2, pr⟩
          have D2 := Lib.hid (Sk.sd KJ.out NS.out s2)
          have P2 := Lib.hid pr
          have SH := Lib.hid (show_ok r s2.rep pr.st)
          clear s2 pr AP
          go_wp2_with fail
          refine SH.out.mono ?_
          intro e w3 h3
          obtain ⟨rfl, L3, d3⟩ := D2.out.step h3
          have RET : Hid (RxPost p M L (rnT k fr tg) (M.sem f) w (.returned (.int .i64 (r : Int))) w3) := Lib.hid ⟨M2, r, d3.ret _, P2.out⟩
          clear h3 d3 D2 P2 SH
          go_wp2_with fail
          go_ret
          exact RET.out

theorem Mgr.Ren.ops {M M' : Mgr} {t : Nat → Nat} {F : Bfn} {r N : Nat} (h : M.WF) (pr : Mgr.Ren M t F M' r) (ls : Listed (M.RenF t F) N) : Mgr.OpS M (rnF t F) N (M'.show r) (r : Int) :=
  Mgr.show_ops (B := (M', r)) h pr.ad.wf pr.ad.ext pr.st pr.sem (pr.ad.len ls)
theorem RenameQ {p n c : Nat} {M : Mgr} {L : Lay} {wr : World} {B : List (Int × Bfn)} {f : Int} {F : Bfn} (R : Rep wr p M L) (b : Qk n c M B) (hf : (f, F) ∈ B) (fr tg : List Nat) (hl : fr.length = tg.length) (hll : fr.length ≤ 1000000) (hfr : ∀ v, v ∈ fr → v < n) (hto : ∀ v, v ∈ tg → v < n) (nd : fr.Nodup) (hn : n ≤ 256) (h0 : 0 < n)
    {fv tv : Value} (hd : SrcAt wr fv 1 fr.length (fr.map natV)) (hd2 : SrcAt wr tv 1 tg.length (tg.map natV)) {N : Nat} (hN : ∀ M : Mgr, M.n = n → M.Plain → Listed (M.RenF (rnT n fr tg) F) N) (hc : c + N ≤ 4000000000000) :
    Calls Tryz.prog 74 #[ptr p, .int .i64 f, fv, tv] wr (OpQ p n (c + N) L wr (rnF (rnT n fr tg) F) B) := by
  obtain ⟨v1, s1⟩ := b.at hf
  obtain ⟨fn, rfl, _⟩ := Mgr.valid_nat b.wf v1
  have e : M.sem fn = F := funext fun a => by rw [← s1, Int.toNat_natCast]
  have ls := hN M b.nn b.pl
  have := b.cost
  have nn := b.nn
  refine (Rename_ok fn fr tg hl hll (fun v hv => by rw [nn]; exact hfr v hv) (fun v hv => by rw [nn]; exact hto v hv) nd v1 R (by rw [nn]; exact hn) (by rw [nn]; exact h0) hd hd2 (fun M' ad => by
    rw [nn, e] at ad
    have := ad.len ls; unfold big; omega)).mono ?_
  rintro x w' ⟨M', r, ret, pr⟩
  rw [nn, e] at pr
  exact OpQ.of b (pr.ops b.wf ls) (Nat.le_refl _) ret
end Go.Proofs.YtdgnbbmgcgfibaaGreatDoor
