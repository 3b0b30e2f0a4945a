/-
  The state of a recursion with a memo of its own beside a manager; the plain law of products.
-/
import Derived.Test.YtngbodmooddjbaaQ
import Derived.Test.YtngbodmooddjbaaOps
import Derived.Test.YtngbodmooddjbaaOrder
import Derived.Test.YtngbodmooddjbaaKeep
import Derived.Deep.CutBlock
import Derived.Deep.QuietTactic
import Derived.BigQuiet
namespace Go.Proofs.Ytngbodmooddjbaa

/-! ### lists of functions -/
/-- At most N functions. -/
def Listed (Φ : Bfn → Prop) (N : Nat) : Prop := ∃ e : Nat → Bfn, ∀ G, Φ G → ∃ i, i < N ∧ e i = G
theorem Listed.mono {Φ Ψ : Bfn → Prop} {N K : Nat} (h : Listed Ψ N) (i : ∀ G, Φ G → Ψ G) (k : N ≤ K) : Listed Φ K := by
  obtain ⟨e, he⟩ := h
  exact ⟨e, fun G hG => by obtain ⟨j, hj, ej⟩ := he G (i G hG); exact ⟨j, by omega, ej⟩⟩
theorem Listed.or {Φ Ψ : Bfn → Prop} {N K : Nat} (h : Listed Φ N) (g : Listed Ψ K) : Listed (fun G => Φ G ∨ Ψ G) (N + K) := by
  obtain ⟨e, he⟩ := h
  obtain ⟨d, hd⟩ := g
  refine ⟨fun i => if i < N then e i else d (i - N), fun G hG => ?_⟩
  rcases hG with hG | hG
  · obtain ⟨i, hi, rfl⟩ := he G hG
    exact ⟨i, by omega, if_pos hi⟩
  · obtain ⟨i, hi, rfl⟩ := hd G hG
    refine ⟨N + i, by omega, ?_⟩
    show (if N + i < N then _ else _) = _
    rw [if_neg (by omega), Nat.add_sub_cancel_left]
theorem Listed.one (F : Bfn) : Listed (fun G => G = F) 1 := ⟨fun _ => F, fun G h => ⟨0, by omega, h.symm⟩⟩
/-- Functions that a code tells apart. -/
theorem Listed.code {A : Type} {P : A → Prop} {Φ : Bfn → Prop} {N : Nat} (f : A → Bfn) (c : A → Nat) (hc : ∀ x, P x → c x < N) (same : ∀ x y, P x → P y → c x = c y → f x = f y) (h : ∀ G, Φ G → ∃ x, P x ∧ f x = G) : Listed Φ N := by
  classical
  refine ⟨fun i => if h : ∃ x, P x ∧ c x = i then f h.choose else fun _ => false, fun G hG => ?_⟩
  obtain ⟨x, px, rfl⟩ := h G hG
  refine ⟨c x, hc x px, ?_⟩
  have ex : ∃ y, P y ∧ c y = c x := ⟨x, px, rfl⟩
  show (if h : ∃ y, P y ∧ c y = c x then f h.choose else _) = _
  rw [dif_pos ex]
  exact same _ _ ex.choose_spec.1 px ex.choose_spec.2

namespace Mgr

/-- M' has what M has and new nodes of functions of Φ. -/
structure Adds (M M' : Mgr) (Φ : Bfn → Prop) : Prop where
  wf : M'.WF
  ext : Ext M M'
  new : ∀ i, M.nodes.length ≤ i → i < M'.nodes.length → M'.stored i ∧ Φ (M'.sem i)

theorem Adds.refl {M : Mgr} (h : M.WF) (Φ : Bfn → Prop) : Adds M M Φ := ⟨h, .refl M, fun i h1 h2 => by omega⟩
theorem Adds.mono {M M' : Mgr} {Φ Ψ : Bfn → Prop} (h : Adds M M' Φ) (i : ∀ G, Φ G → Ψ G) : Adds M M' Ψ := ⟨h.wf, h.ext, fun j h1 h2 => ⟨(h.new j h1 h2).1, i _ (h.new j h1 h2).2⟩⟩
theorem Adds.trans {M M' M'' : Mgr} {Φ : Bfn → Prop} (h : Adds M M' Φ) (h' : Adds M' M'' Φ) : Adds M M'' Φ :=
  ⟨h'.wf, h.ext.trans h'.ext, fun i h1 h2 => by
    rcases Nat.lt_or_ge i M'.nodes.length with hi | hi
    · obtain ⟨s, p⟩ := h.new i h1 hi
      refine ⟨h'.ext.stored s, ?_⟩
      have e : M''.sem i = M'.sem i := funext fun a => h'.ext.sem h.wf s a
      rw [e]; exact p
    · exact h'.new i hi h2⟩

theorem Adds.len {M M' : Mgr} {Φ : Bfn → Prop} {N : Nat} (h : Adds M M' Φ) (l : Listed Φ N) : M'.nodes.length ≤ M.nodes.length + N := by
  obtain ⟨e, he⟩ := l
  have ex : ∀ i, ∃ j, M.nodes.length ≤ i → i < M'.nodes.length → j < N ∧ e j = M'.sem i := fun i => by
    by_cases hi : M.nodes.length ≤ i ∧ i < M'.nodes.length
    · obtain ⟨j, hj, ej⟩ := he _ (h.new i hi.1 hi.2).2
      exact ⟨j, fun _ _ => ⟨hj, ej⟩⟩
    · exact ⟨0, fun a b => (hi ⟨a, b⟩).elim⟩
  obtain ⟨c, hc⟩ := Classical.axiomOfChoice ex
  have hnd : ((List.range (M'.nodes.length - M.nodes.length)).map (fun i => c (M.nodes.length + i))).Nodup := by
    rw [List.nodup_iff_pairwise_ne, List.pairwise_map]
    have hr : (List.range (M'.nodes.length - M.nodes.length)).Nodup := List.nodup_range
    rw [List.nodup_iff_pairwise_ne] at hr
    refine hr.imp_of_mem (fun {x y} hx hy hne q => hne ?_)
    simp only [List.mem_range] at hx hy
    obtain ⟨_, e1⟩ := hc (M.nodes.length + x) (by omega) (by omega)
    obtain ⟨_, e2⟩ := hc (M.nodes.length + y) (by omega) (by omega)
    have s1 := (h.new (M.nodes.length + x) (by omega) (by omega)).1
    have s2 := (h.new (M.nodes.length + y) (by omega) (by omega)).1
    have := canon h.wf s1 s2 (fun a => by rw [← e1, ← e2, q])
    omega
  have := nodup_length _ (List.range N) hnd (fun x hx => by
    simp only [List.mem_map, List.mem_range] at hx ⊢
    obtain ⟨i, hi, rfl⟩ := hx
    exact (hc (M.nodes.length + i) (by omega) (by omega)).1)
  simp only [List.length_map, List.length_range] at this
  omega

/-- The cofactors of F. -/
def Cof (M : Mgr) (F : Bfn) (G : Bfn) : Prop := ∃ d a, G = fun b => F (M.mix d a b)
theorem mix_zero (M : Mgr) (a b : Nat → Bool) : M.mix 0 a b = b := by funext v; unfold mix; rw [if_neg (by omega)]
theorem Cof.self (M : Mgr) (F : Bfn) : M.Cof F F := ⟨0, fun _ => false, by funext b; rw [mix_zero]⟩

theorem build_adds {k : Nat} {M : Mgr} (h : M.WF) (hk : k ≤ M.n) {F : Bfn} (hF : M.Reads (M.n - k) F) : Adds M (build k M F).1 (M.Cof F) := by
  have s := build_spec k M h hk F hF
  have hn := build_new k M h hk F hF
  refine ⟨s.wf, s.ext, fun i h1 h2 => ?_⟩
  have r := hn i h1 h2
  obtain ⟨st, _, _⟩ := Reach.spec s.wf s.st r
  obtain ⟨a, ha⟩ := Reach.cof s.wf s.st r
  refine ⟨st, (build k M F).1.depth i, a, funext fun b => ?_⟩
  rw [ha, s.sem, s.ext.mix]

theorem put_adds {M : Mgr} (h : M.WF) {v lo hi : Nat} (hv : v < M.n) (hl : M.stored lo) (hh : M.stored hi) (dl : M.lev v < M.depth lo) (dh : M.lev v < M.depth hi) :
    Adds M (M.put v lo hi).1 (fun G => G = joinF M v lo hi) := by
  have s := put_spec h hv hl hh dl dh
  refine ⟨s.wf, s.ext, fun i h1 h2 => ?_⟩
  by_cases e : lo = hi
  · have : (M.put v lo hi).1 = M := by unfold put; rw [if_pos e]
    rw [this] at h2; omega
  · have := (put_nd (v := v) h e).2.2 i h1 h2
    subst this
    exact ⟨s.st, funext s.sem⟩

theorem join_adds {M : Mgr} (h : M.WF) {v lo hi : Nat} (hv : v < M.n) (hl : M.stored lo) (hh : M.stored hi) : Adds M (M.joinM v lo hi).1 (fun G => M.Cof (joinF M v lo hi) G ∨ G = fun a => a v) := by
  unfold joinM
  by_cases c : M.lev v < M.depth lo ∧ M.lev v < M.depth hi
  · rw [if_pos c]
    exact (put_adds h hv hl hh c.1 c.2).mono (fun G e => .inl (by rw [e]; exact Cof.self M _))
  · rw [if_neg c]
    have d0 := lev_lt_const h hv (f := 0) (by omega)
    have d1 := lev_lt_const h hv (f := 1) (by omega)
    have s := put_spec h hv (.inl (by omega)) (.inl (by omega)) d0 d1
    have ad := (put_adds h hv (.inl (by omega)) (.inl (by omega)) d0 d1).mono (Ψ := fun G => M.Cof (joinF M v lo hi) G ∨ G = fun a => a v) (fun G e => .inr (by
      rw [e]; funext a; unfold joinF; rw [sem_one, sem_zero]; cases a v <;> rfl))
    generalize M.put v 0 1 = b at *
    have hr : b.1.Reads (b.1.n - M.n) (iteF b.1 b.2 hi lo) := iteF_reads s.wf s.st (s.ext.stored hh) (s.ext.stored hl) (by rw [s.ext.n]; omega) (by rw [s.ext.n]; omega) (by rw [s.ext.n]; omega)
    have eF : iteF b.1 b.2 hi lo = joinF M v lo hi := by
      funext a
      unfold iteF joinF
      rw [s.sem, s.ext.sem h hh, s.ext.sem h hl]
      cases a v <;> simp
    refine ad.trans ((build_adds s.wf (by rw [s.ext.n]; omega) hr).mono (fun G g => .inl ?_))
    rw [eF] at g
    obtain ⟨d, a, rfl⟩ := g
    exact ⟨d, a, funext fun x => by rw [s.ext.mix]⟩

end Mgr

/-! ### quantified functions -/
/-- F with the variables of a list quantified. -/
def exQ : List Nat → Bfn → Bfn
  | [], F => F
  | v :: l, F => exQ l fun a => F (Mgr.upd a v false) || F (Mgr.upd a v true)

/-- a with the values of b for the variables of l. -/
def ovr (l : List Nat) (b a : Nat → Bool) : Nat → Bool := fun v => if v ∈ l then b v else a v
theorem exQ_iff : ∀ (l : List Nat) (F : Bfn) (a : Nat → Bool), exQ l F a = true ↔ ∃ b, F (ovr l b a) = true
  | [], F, a => by
    have e : ∀ b, ovr [] b a = a := fun b => funext fun v => by unfold ovr; simp
    simp only [exQ, e]
    exact ⟨fun h => ⟨a, h⟩, fun ⟨_, h⟩ => h⟩
  | v :: l, F, a => by
    simp only [exQ]
    rw [exQ_iff l]
    constructor
    · rintro ⟨b, h⟩
      rw [Bool.or_eq_true] at h
      have key : ∀ x, F (Mgr.upd (ovr l b a) v x) = true → ∃ b, F (ovr (v :: l) b a) = true := fun x hx => by
        refine ⟨Mgr.upd b v x, ?_⟩
        rw [← hx]
        congr 1
        funext u
        unfold ovr Mgr.upd
        by_cases e : u = v
        · simp [e]
        · simp [e]
      rcases h with h | h
      · exact key _ h
      · exact key _ h
    · rintro ⟨b, h⟩
      refine ⟨b, ?_⟩
      have e : ∀ x, b v = x → Mgr.upd (ovr l b a) v x = ovr (v :: l) b a := fun x hx => by
        funext u
        unfold ovr Mgr.upd
        by_cases e : u = v
        · simp [e, hx]
        · simp [e]
      cases hb : b v with
      | false => rw [e _ hb, h]; rfl
      | true => rw [e _ hb, h]; simp
theorem exQ_congr {l : List Nat} {F G : Bfn} (h : ∀ a, F a = G a) : exQ l F = exQ l G := by rw [show F = G from funext h]
theorem exQ_mem {l k : List Nat} (h : ∀ v, v ∈ l ↔ v ∈ k) (F : Bfn) : exQ l F = exQ k F := by
  funext a
  have e : ∀ b, ovr l b a = ovr k b a := fun b => funext fun v => by unfold ovr; simp only [h v]
  rw [Bool.eq_iff_iff, exQ_iff, exQ_iff]
  simp only [e]

/-- A variable that is not quantified. -/
theorem exQ_free {l : List Nat} {v : Nat} (hv : v ∉ l) (F : Bfn) (x : Bool) (a : Nat → Bool) : exQ l (fun b => F (Mgr.upd b v x)) a = exQ l F (Mgr.upd a v x) := by
  rw [Bool.eq_iff_iff, exQ_iff, exQ_iff]
  have e : ∀ b, Mgr.upd (ovr l b a) v x = ovr l b (Mgr.upd a v x) := fun b => by
    funext u
    unfold ovr Mgr.upd
    by_cases e : u = v
    · simp [e, hv]
    · simp [e]
  simp only [e]
/-- A variable that is. -/
theorem exQ_split {l : List Nat} {v : Nat} (hv : v ∈ l) (F : Bfn) (a : Nat → Bool) : exQ l F a = (exQ l (fun b => F (Mgr.upd b v false)) a || exQ l (fun b => F (Mgr.upd b v true)) a) := by
  rw [Bool.eq_iff_iff, Bool.or_eq_true, exQ_iff, exQ_iff, exQ_iff]
  have e : ∀ (b : Nat → Bool) (x : Bool), Mgr.upd (ovr l b a) v x = ovr l (Mgr.upd b v x) a := fun b x => by
    funext u
    unfold ovr Mgr.upd
    by_cases e : u = v
    · simp [e, hv]
    · simp [e]
  simp only [e]
  constructor
  · rintro ⟨b, h⟩
    have e2 : ∀ x, b v = x → Mgr.upd b v x = b := fun x hx => by
      funext u
      unfold Mgr.upd
      by_cases e : u = v
      · simp [e, hx]
      · simp [e]
    cases hb : b v with
    | false => exact .inl ⟨b, by rw [e2 _ hb]; exact h⟩
    | true => exact .inr ⟨b, by rw [e2 _ hb]; exact h⟩
  · rintro (⟨b, h⟩ | ⟨b, h⟩)
    · exact ⟨_, h⟩
    · exact ⟨_, h⟩
/-- Nothing that is read is quantified. -/
theorem exQ_none {l : List Nat} {F : Bfn} (h : ∀ a b, (∀ v, v ∉ l → a v = b v) → F a = F b) : exQ l F = F := by
  funext a
  rw [Bool.eq_iff_iff, exQ_iff]
  have e : ∀ b, F (ovr l b a) = F a := fun b => h _ _ (fun v hv => by unfold ovr; rw [if_neg hv])
  simp only [e]
  exact ⟨fun ⟨_, h⟩ => h, fun h => ⟨a, h⟩⟩
theorem exQ_const (l : List Nat) (c : Bool) : exQ l (fun _ => c) = fun _ => c := exQ_none (fun _ _ _ => rfl)
theorem exQ_reads {M : Mgr} {d : Nat} {l : List Nat} {F : Bfn} (h : M.Reads d F) : M.Reads d (exQ l F) := fun a b hab => by
  rw [Bool.eq_iff_iff, exQ_iff, exQ_iff]
  have e : ∀ c, F (ovr l c a) = F (ovr l c b) := fun c => h _ _ (fun v h1 h2 => by unfold ovr; split; rfl; exact hab v h1 h2)
  simp only [e]
theorem exQ_or (l : List Nat) (F G : Bfn) (a : Nat → Bool) : exQ l (fun b => F b || G b) a = (exQ l F a || exQ l G a) := by
  rw [Bool.eq_iff_iff, Bool.or_eq_true, exQ_iff, exQ_iff, exQ_iff]
  constructor
  · rintro ⟨b, h⟩
    rcases Bool.or_eq_true_iff.1 h with h | h
    · exact .inl ⟨b, h⟩
    · exact .inr ⟨b, h⟩
  · rintro (⟨b, h⟩ | ⟨b, h⟩)
    · exact ⟨b, by rw [h]; rfl⟩
    · exact ⟨b, by rw [h]; simp⟩
/-- What is quantified is not read. -/
theorem exQ_gone {l : List Nat} {v : Nat} (hv : v ∈ l) (F : Bfn) (x : Bool) (a : Nat → Bool) : exQ l F (Mgr.upd a v x) = exQ l F a := by
  rw [Bool.eq_iff_iff, exQ_iff, exQ_iff]
  have e : ∀ b, ovr l b (Mgr.upd a v x) = ovr l b a := fun b => funext fun u => by
    unfold ovr Mgr.upd
    by_cases e : u = v
    · simp [e, hv]
    · simp [e]
  simp only [e]

/-! ### the product -/
namespace Mgr
/-- The functions of the nodes that a product makes. -/
def ProF (M : Mgr) (l : List Nat) (F : Bfn) (G : Bfn) : Prop := ∃ d' a', M.Cof (exQ l fun x => F (M.mix d' a' x)) G

theorem ProF.ext {M M' : Mgr} (e : Ext M M') {l : List Nat} {F G : Bfn} : M'.ProF l F G ↔ M.ProF l F G := by
  unfold ProF Cof
  simp only [e.mix]
theorem ProF.self (M : Mgr) (l : List Nat) (F : Bfn) {G : Bfn} (h : M.Cof (exQ l F) G) : M.ProF l F G := by
  refine ⟨0, fun _ => false, ?_⟩
  have e : (fun x => F (M.mix 0 (fun _ => false) x)) = F := funext fun x => by rw [mix_zero]
  rw [e]; exact h
/-- The families of the cofactors are parts of the family. -/
theorem ProF.upd {M : Mgr} (h : M.WF) {l : List Nat} {F G : Bfn} {v : Nat} {x : Bool} (hv : v < M.n) (hF : M.Reads (M.lev v) F) (g : M.ProF l (fun a => F (Mgr.upd a v x)) G) : M.ProF l F G := by
  obtain ⟨d', a', g⟩ := g
  by_cases hd : M.lev v < d'
  · refine ⟨d', Mgr.upd a' v x, ?_⟩
    have e : (fun y => F (M.mix d' (Mgr.upd a' v x) y)) = fun y => F (Mgr.upd (M.mix d' a' y) v x) := funext fun y => by
      congr 1; funext u
      unfold mix Mgr.upd
      by_cases e : u = v
      · subst e; simp [hd]
      · simp only [e, if_false]
    rw [e]; exact g
  · refine ⟨M.lev v + 1, Mgr.upd a' v x, ?_⟩
    have e : (fun y => F (M.mix (M.lev v + 1) (Mgr.upd a' v x) y)) = fun y => F (Mgr.upd (M.mix d' a' y) v x) := funext fun y => by
      refine hF _ _ (fun u hu hlu => ?_)
      unfold mix Mgr.upd
      by_cases e : u = v
      · subst e; simp
      · have : M.lev u ≠ M.lev v := fun q => e (lev_inj h hu hv q)
        have n1 : ¬ M.lev u < M.lev v + 1 := by omega
        have n2 : ¬ M.lev u < d' := by omega
        simp only [n1, n2, e, if_false]
    rw [e]; exact g
end Mgr

end Go.Proofs.Ytngbodmooddjbaa

namespace Go.Proofs.Ytngbodmooddjbaa
open Go.RowKit

set_option maxHeartbeats 400000 in
theorem Node_ok {p : Nat} {M : Mgr} {L : Lay} (f : Nat) {w : World} (R : Rep w p M L) (hf : M.stored f) :
    Calls Try.prog 103 #[ptr p, .int .i64 (f : Int)] w fun e w' => e = .returned (.tuple #[.int .i64 (M.nd f).1, .int .i64 ((M.nd f).2.1 : Int), .int .i64 ((M.nd f).2.2 : Int)]) ∧ Kp No w w' := by
  obtain ⟨F, raw, _⟩ := R.raw
  have hm := maxLen_val
  have hlt := M.stored_lt R.wf hf
  obtain ⟨bn, cn, hsn, hcn, hcm, hnd⟩ := raw.node_cells R.wf
  obtain ⟨n0, n1, n2⟩ := hnd f hlt
  have c2 := raw.c2
  rw [hsn] at c2
  have hle2 : M.nodes.length ≤ 9223372036854775807 := by omega
  have b1 : (f : Int) < M.nodes.length := by omega
  have b2 : ¬ (M.nodes.length : Int) ≤ (f : Int) := by omega
  have b0 : (0 : Int) ≤ (f : Int) := by omega
  have hbn := World.block_lt_of_cell? _ _ n0
  have plt := raw.plt
  unfold natV at n1 n2
  clear raw R hm hsn hnd hcn hcm hf hlt
  generalize M.nd f = x at *
  generalize M.nodes.length = nn at *
  go_enter Try.func103, Try.ntmps103
  go_wp2
  go_quiet (fail)
  go_wp2
  refine bodyPost_ret (v := .tuple #[.int .i64 x.1, .int .i64 (x.2.1 : Int), .int .i64 (x.2.2 : Int)]) (by simp [results, Try.results103, go_sem]) rfl ⟨rfl, (Kp.alloc _).trans_no (Kp.drewN _)⟩

theorem Join_ok {p : Nat} {M : Mgr} {L : Lay} (v lo hi : Nat) {w : World} (R : Rep w p M L) (hv : v < M.n) (hl : M.stored lo) (hh : M.stored hi) (hb : (M.joinM v lo hi).1.nodes.length ≤ big) :
    Calls Try.prog 105 #[ptr p, .int .i64 (v : Int), .int .i64 (lo : Int), .int .i64 (hi : Int)] w (Ret p L w (M.joinM v lo hi).1 (.int .i64 (M.joinM v lo hi).2)) := by
  have HC := Lib.hid (join_ok v lo hi R hv hl hh hb)
  have SD := Lib.hid (Sd.start R)
  clear R hv hl hh hb
  generalize M.joinM v lo hi = B at *
  go_enter Try.func105, Try.ntmps105
  go_wp2_with fail
  refine HC.out.mono ?_
  intro e x h
  obtain ⟨rfl, L2, s2⟩ := SD.out.step h
  clear h
  go_wp2_with fail
  go_ret
  exact s2.ret _

theorem Apply_ok {p : Nat} {M : Mgr} {L : Lay} (f g h : Nat) {w : World} (R : Rep w p M L) (sf : M.stored f) (sg : M.stored g) (sh : M.stored h) (hb : (Mgr.build M.n M (iteF M f g h)).1.nodes.length ≤ big) :
    Calls Try.prog 74 #[ptr p, .int .i64 (f : Int), .int .i64 (g : Int), .int .i64 (h : Int)] w (Ret p L w (Mgr.build M.n M (iteF M f g h)).1 (.int .i64 (Mgr.build M.n M (iteF M f g h)).2)) := by
  have HC := Lib.hid (ite_ok f g h R sf sg sh hb)
  have SD := Lib.hid (Sd.start R)
  clear R sf sg sh hb
  generalize Mgr.build M.n M (iteF M f g h) = B at *
  go_enter Try.func74, Try.ntmps74
  go_wp2_with fail
  refine HC.out.mono ?_
  intro e x h
  obtain ⟨rfl, L2, s2⟩ := SD.out.step h
  clear h
  go_wp2_with fail
  go_ret
  exact s2.ret _

/-! ### lists of variables -/
def varsB (n : Nat) (l : List Int) : Bool := l.all fun x => decide (0 ≤ x ∧ x < n)
theorem varsB_true {n : Nat} {l : List Int} : varsB n l = true ↔ ∀ k, k < l.length → 0 ≤ l.getD k 0 ∧ l.getD k 0 < n := by
  unfold varsB
  rw [List.all_eq_true]
  constructor
  · intro h k hk
    have := h (l.getD k 0) (by rw [List.getD_eq_getElem?_getD, List.getElem?_eq_getElem hk]; exact List.getElem_mem hk)
    simpa using this
  · intro h x hx
    obtain ⟨k, hk, rfl⟩ := List.getElem_of_mem hx
    have := h k hk
    rw [List.getD_eq_getElem?_getD, List.getElem?_eq_getElem hk] at this
    simpa using this
theorem varsB_bad {n : Nat} {l : List Int} {k : Nat} (hk : k < l.length) (h : ¬ (0 ≤ l.getD k 0 ∧ l.getD k 0 < n)) : varsB n l = false := by
  cases e : varsB n l
  · rfl
  · exact (h (varsB_true.1 e k hk)).elim
theorem varsB_nat {n : Nat} {l : List Int} (h : varsB n l = true) : ∃ m : List Nat, l = m.map Int.ofNat ∧ ∀ v, v ∈ m → v < n := by
  have h' : ∀ x, x ∈ l → 0 ≤ x ∧ x < n := fun x hx => by
    have := List.all_eq_true.1 h x hx
    simpa using this
  refine ⟨l.map Int.toNat, ?_, fun v hv => ?_⟩
  · rw [List.map_map]
    conv => lhs; rw [← List.map_id l]
    refine List.map_congr_left fun x hx => ?_
    have := (h' x hx).1
    show x = ((x.toNat : Nat) : Int)
    omega
  · obtain ⟨x, hx, rfl⟩ := List.mem_map.1 hv
    have := h' x hx
    omega
theorem varsB_of {n : Nat} {m : List Nat} (h : ∀ v, v ∈ m → v < n) : varsB n (m.map Int.ofNat) = true := by
  unfold varsB
  rw [List.all_eq_true]
  intro x hx
  obtain ⟨v, hv, rfl⟩ := List.mem_map.1 hx
  have := h v hv
  simp; omega

def VaR (w : World) (n : Nat) (l : List Int) (gk : Nat) (s : Value) (x : World) : Prop := ∃ k, k + gk = l.length ∧ s = .int .i64 (k : Int) ∧ (∀ i, i < k → 0 ≤ l.getD i 0 ∧ l.getD i 0 < n) ∧ w = x

set_option maxRecDepth 100000 in
set_option maxHeartbeats 1000000 in
theorem variables_ok {p : Nat} {M : Mgr} {L : Lay} (l : List Int) (hl : l.length ≤ 1000000) {dv : Value} {w : World} (R : Rep w p M L) (hd : SrcAt w dv 1 l.length (l.map intV)) :
    Calls Try.prog 52 #[ptr p, dv] w fun e w' => e = .returned (.bool (varsB M.n l)) ∧ w = w' := by
  have VARS := Lib.hid (vars_ok R)
  unfold natV at VARS
  have HD := Lib.hid hd
  obtain ⟨ao, cp, rfl⟩ := hd.form
  obtain ⟨ok, hok⟩ : ∃ b, varsB M.n l = b := ⟨_, rfl⟩
  rw [hok]
  have OK := Lib.hid hok
  clear hok hd R
  generalize M.n = n at *
  have hli : (l.length : Int) ≤ 1000000 := by omega
  go_enter Try.func52, Try.ntmps52
  go_wp2_with fail
  go_loopg [9] l.length (fun gk s x => VaR w n l gk s x)
  case atStart => exact ⟨0, by omega, rfl, fun i h => by omega, rfl⟩
  case round =>
    obtain ⟨k, hk, rfl, hin, hw⟩ := hrel
    subst hw
    by_cases hlt : k < l.length
    · obtain ⟨g1, o1, c1, hv1, _, hcell⟩ := HD.out.cellAt (by omega)
      have hv2 : ao = some ⟨g1, o1, none⟩ := by injection hv1
      subst hv2
      have hc := hcell k (intV (l.getD k 0)) (by simp [hlt])
      unfold intV at hc
      have hlti : (k : Int) < l.length := by omega
      have HK := Lib.hid hk
      clear hcell hv1 hk
      by_cases h0 : 0 ≤ l.getD k 0
      · by_cases h1 : l.getD k 0 < n
        · have JN : Hid (VaR w n l (l.length - (k + 1)) (.int .i64 ((k + 1 : Nat) : Int)) w) := Lib.hid ⟨k + 1, by omega, rfl, fun i hi => by
            by_cases e : i = k
            · subst e; exact ⟨h0, h1⟩
            · exact hin i (by omega), rfl⟩
          have h1' : ¬ (n : Int) ≤ l.getD k 0 := by omega
          clear hin
          generalize l.getD k 0 = y at *
          go_wp2_with (first | ((with_reducible refine VARS.out.mono ?_); rintro e w' ⟨rfl, rfl⟩))
          go_roundg (l.length - (k + 1))
          case measure => have := HK.out; omega
          case rel => exact JN.out
        · obtain rfl : ok = false := OK.out.symm.trans (varsB_bad hlt (fun h => h1 h.2))
          have h1' : (n : Int) ≤ l.getD k 0 := by omega
          clear hin
          generalize l.getD k 0 = y at *
          go_wp2_with (first | ((with_reducible refine VARS.out.mono ?_); rintro e w' ⟨rfl, rfl⟩))
          go_ret
          exact ⟨rfl, rfl⟩
      · obtain rfl : ok = false := OK.out.symm.trans (varsB_bad hlt (fun h => h0 h.1))
        have h0' : l.getD k 0 < 0 := by omega
        clear hin
        generalize l.getD k 0 = y at *
        go_wp2_with (first | ((with_reducible refine VARS.out.mono ?_); rintro e w' ⟨rfl, rfl⟩))
        go_ret
        exact ⟨rfl, rfl⟩
    · obtain rfl : k = l.length := by omega
      obtain rfl : ok = true := OK.out.symm.trans (varsB_true.2 hin)
      have hge : ¬ (l.length : Int) < l.length := by omega
      clear hin hk hlt
      go_wp2_with fail
      go_ret
      exact ⟨rfl, rfl⟩

/-! ### 'levels' -/
theorem made_zero (n : Nat) : (madeCells (Value.int .i64 0).cells (n * 1)).toList = List.replicate n (.int .i64 0) := by
  apply List.ext_getElem?
  intro j
  simp only [madeCells, Nat.mul_one, Array.getElem?_toList, List.getElem?_replicate]
  by_cases hj : j < n
  · simp [hj, Value.cells, Nat.mod_one]
  · simp [hj]
def LvRow (M : Mgr) (i : Nat) : List Value := (List.range M.n).map fun v => .int .i64 (if M.lev v < i then (M.lev v : Int) else 0)
theorem LvRow_zero (M : Mgr) : LvRow M 0 = List.replicate M.n (.int .i64 0) := by
  apply List.ext_getElem?
  intro j
  simp only [LvRow, List.getElem?_map, List.getElem?_replicate]
  by_cases hj : j < M.n
  · simp [hj]
  · simp [hj]
theorem LvRow_set {M : Mgr} (h : M.WF) {i : Nat} (hi : i < M.n) : (LvRow M i).set (M.ord i) (.int .i64 (i : Int)) = LvRow M (i + 1) := by
  obtain ⟨o1, o2⟩ := h.lo_ i hi
  apply List.ext_getElem?
  intro j
  by_cases hj : j < M.n
  · by_cases e : M.ord i = j
    · subst e
      simp [LvRow, hj, o2]
    · have hne : M.lev j ≠ i := fun x => e (by rw [← x, (h.ol j hj).2])
      have : (M.lev j < i + 1) ↔ M.lev j < i := by omega
      simp [LvRow, hj, e, this]
  · simp [LvRow, hj]
theorem LvRow_done {M : Mgr} (h : M.WF) : LvRow M M.n = (List.range M.n).map fun v => natV (M.lev v) := by
  unfold LvRow
  refine List.map_congr_left fun v hv => ?_
  have := (h.ol v (List.mem_range.1 hv)).1
  rw [if_pos this]; rfl
structure LvJ (w : World) (M : Mgr) (g i : Nat) (x : World) : Prop where
  row : x.ownsRow w.heap.size 3 1 (.slice (some ⟨g, 0, none⟩) M.n M.n) M.n (LvRow M i)
  kp : Kp No w x
theorem LvJ.ge {w x : World} {M : Mgr} {g i : Nat} (j : LvJ w M g i x) : w.heap.size ≤ g ∧ g < x.heap.size := j.row.lt g rfl
theorem LvJ.put {w x : World} {M : Mgr} {g i : Nat} (h : M.WF) (j : LvJ w M g i x) (hi : i < M.n) : LvJ w M g (i + 1) (x.setCell ⟨g, M.ord i, none⟩ (.int .i64 (i : Int))) := by
  refine ⟨?_, ?_⟩
  · have := ownsRow_put j.row (M.ord i) (.int .i64 (i : Int))
    rw [LvRow_set h hi] at this
    exact this
  · exact j.kp.trans (A' := fun x => x = g) (fun x e => .inr (by rw [e]; exact j.ge.1)) ((Kp.setCell _ _).mono (fun _ _ e => e))
theorem LvJ.cell {w x : World} {M : Mgr} {g i : Nat} (j : LvJ w M g i x) {v : Nat} (hv : v < M.n) : ∃ u, x.cell? ⟨g, v, none⟩ = some u ∧ x.frozen? ⟨g, v, none⟩ = false := by
  obtain ⟨g', c, hv', _, _, _, hc, hz⟩ := ownsRow_open j.row (by omega)
  cases hv'
  exact ⟨_, hc v (.int .i64 (if M.lev v < i then (M.lev v : Int) else 0)) (by simp [LvRow, hv]), hz v⟩
def LvR (w : World) (M : Mgr) (g : Nat) (w2 : World) (gk : Nat) (s : Value) (x : World) : Prop := ∃ i, i + gk = M.n ∧ s = .int .i64 (i : Int) ∧ LvJ w M g i x ∧ Kp (fun b => b = g) w2 x
def LvPost (w : World) (M : Mgr) (e : Ending) (w' : World) : Prop := ∃ g, e = .returned (.slice (some ⟨g, 0, none⟩) M.n M.n) ∧ w'.ownsRow w.heap.size 3 1 (.slice (some ⟨g, 0, none⟩) M.n M.n) M.n ((List.range M.n).map fun v => natV (M.lev v)) ∧ Kp No w w'

set_option maxRecDepth 100000 in
set_option maxHeartbeats 1000000 in
theorem levels_ok {p : Nat} {M : Mgr} {L : Lay} {w : World} (R : Rep w p M L) (hn : M.n ≤ 256) : Calls Try.prog 94 #[ptr p] w (LvPost w M) := by
  obtain ⟨i0, hi0, hz0, hz1, hz2⟩ := info_parts info_int
  have VARS := Lib.hid (vars_ok R)
  unfold natV at VARS
  obtain ⟨w1, hmk, r1, r2⟩ := run_make_full (P := Try.prog) w w.heap.size 33 3 i0 _ 1 Try.underlying33 hi0 hz0 hz1 .i64 .i64 M.n (by rw [hz2]; omega) (by rw [maxLen_val]; omega) (Nat.le_refl _)
  rw [made_zero, ← LvRow_zero] at r1
  have k1 : Kp No w w1 := (Kp.grown r2).mono (fun k _ e => by cases e)
  have J1 : Hid (LvJ w M w.heap.size 0 w1) := Lib.hid ⟨r1, k1⟩
  have ORD := Lib.hid (Order_ok (R.no k1) hn)
  have WF := Lib.hid R.wf
  have HN : Hid (M.order.length = M.n) := Lib.hid rfl
  have hni : (M.n : Int) ≤ 256 := by omega
  have hwg : w.heap.size < w1.heap.size := J1.out.ge.2
  clear r1 r2 R hn
  go_enter Try.func94, Try.ntmps94
  go_wp2_with fail
  refine VARS.out.mono ?_
  rintro e w' ⟨rfl, rfl⟩
  go_wp2_with fail
  refine ORD.out.mono ?_
  rintro e w2 ⟨v, rfl, orow, k2⟩
  have J2 : Hid (LvR w M w.heap.size w2 M.n (.int .i64 0) w2) := Lib.hid ⟨0, by omega, rfl, ⟨ownsRow_kp J1.out.row k2 (fun _ _ z => z), k1.trans_no k2⟩, Kp.refl _ _⟩
  have OROW : Hid (∀ y, Kp (fun b => b = w.heap.size) w2 y → SrcAt y v 1 M.n (M.order.map natV)) := Lib.hid (fun y ky => by
    rw [← HN.out]
    exact SrcAt.of_row (ownsRow_kp orow ky (fun b hb e => by have := (orow.lt b hb).1; omega)))
  rw [HN.out] at orow
  obtain ⟨ao, cp, rfl⟩ := (SrcAt.of_row orow).form
  clear orow k2 ORD hmk VARS J1
  generalize hnn : M.n = nn at *
  have HNN := Lib.hid hnn
  clear hnn
  go_wp2_with fail
  go_loopg [12] nn (fun gk s x => LvR w M w.heap.size w2 gk s x)
  case atStart => exact J2.out
  case round =>
    clear J2
    obtain ⟨i, hi, rfl, j, kx⟩ := hrel
    rw [HNN.out] at hi
    by_cases hlt : i < nn
    · obtain ⟨g1, o1, c1, hv1, _, hcell⟩ := (OROW.out wr kx).cellAt (by omega)
      have hv2 : ao = some ⟨g1, o1, none⟩ := by injection hv1
      subst hv2
      have him : i < M.n := by rw [HNN.out]; exact hlt
      have hil : i < M.order.length := him
      have hc := hcell i (natV (M.ord i)) (by simp [Mgr.ord, hil])
      unfold natV at hc
      obtain ⟨o1', o2'⟩ := WF.out.lo_ i him
      obtain ⟨u, cu, zu⟩ := j.cell o1'
      have JN : Hid (LvR w M w.heap.size w2 (nn - (i + 1)) (.int .i64 ((i + 1 : Nat) : Int)) (wr.setCell ⟨w.heap.size, M.ord i, none⟩ (.int .i64 (i : Int)))) := Lib.hid ⟨i + 1, by rw [HNN.out]; omega, rfl, j.put WF.out him, kx.trans (A' := fun b => b = w.heap.size) (fun b e => .inl e) ((Kp.setCell _ _).mono (fun _ _ e => e))⟩
      have hlti : (i : Int) < nn := by omega
      have ho : (M.ord i : Int) < nn := by rw [HNN.out] at o1'; omega
      have hwlt : w.heap.size < wr.heap.size := j.ge.2
      have HI := Lib.hid hi
      clear hcell hv1 hi j kx o1' o2' him hil
      generalize M.ord i = oi at *
      go_wp2_with fail
      go_roundg (nn - (i + 1))
      case measure => have := HI.out; omega
      case rel => exact JN.out
    · obtain rfl : i = nn := by omega
      have FIN : Hid (LvPost w M (.returned (.slice (some ⟨w.heap.size, 0, none⟩) i i)) wr) := Lib.hid (by
        refine ⟨w.heap.size, by rw [HNN.out], ?_, j.kp⟩
        have := j.row
        have e : LvRow M i = LvRow M M.n := by rw [HNN.out]
        rw [e, LvRow_done WF.out] at this
        exact this)
      have hge : ¬ (i : Int) < i := by omega
      clear hi j kx hlt
      go_wp2_with fail
      go_ret
      exact FIN.out

/-! ### 'repeats' -/
def InRow (n : Nat) (l : List Nat) : List Value := (List.range n).map fun v => .bool (decide (v ∈ l))
theorem InRow_nil (n : Nat) : InRow n [] = List.replicate n (.bool false) := by
  apply List.ext_getElem?
  intro j
  by_cases hj : j < n
  · simp [InRow, hj]
  · simp [InRow, hj]
theorem InRow_set (n : Nat) (l : List Nat) (x : Nat) : (InRow n l).set x (.bool true) = InRow n (l ++ [x]) := by
  apply List.ext_getElem?
  intro j
  by_cases hj : j < n
  · by_cases e : x = j
    · subst e; simp [InRow, hj]
    · have e' : ¬ j = x := fun h => e h.symm
      simp [InRow, hj, e, e']
  · simp [InRow, hj]
structure InJ (w : World) (n g : Nat) (l : List Nat) (x : World) : Prop where
  row : x.ownsRow w.heap.size 4 1 (.slice (some ⟨g, 0, none⟩) n n) n (InRow n l)
  kp : Kp No w x
theorem InJ.ge {w x : World} {n g : Nat} {l : List Nat} (j : InJ w n g l x) : w.heap.size ≤ g ∧ g < x.heap.size := j.row.lt g rfl
theorem InJ.put {w x : World} {n g : Nat} {l : List Nat} (j : InJ w n g l x) (v : Nat) : InJ w n g (l ++ [v]) (x.setCell ⟨g, v, none⟩ (.bool true)) := by
  refine ⟨?_, ?_⟩
  · have := ownsRow_put j.row v (.bool true)
    rw [InRow_set] at this
    exact this
  · exact j.kp.trans (A' := fun x => x = g) (fun x e => .inr (by rw [e]; exact j.ge.1)) ((Kp.setCell _ _).mono (fun _ _ e => e))
theorem InJ.cell {w x : World} {n g : Nat} {l : List Nat} (j : InJ w n g l x) {v : Nat} (hv : v < n) : x.cell? ⟨g, v, none⟩ = some (.bool (decide (v ∈ l))) ∧ x.frozen? ⟨g, v, none⟩ = false := by
  obtain ⟨g', c, hv', _, _, _, hc, hz⟩ := ownsRow_open j.row (by omega)
  cases hv'
  exact ⟨hc v _ (by simp [InRow, hv]), hz v⟩
theorem InJ.start (w : World) (n : Nat) (hn : n ≤ 256) : ∃ w1, (Instr.makeSlice 44 (.int .i64 (n : Int)) (.int .i64 (n : Int))).run Try.prog w = .ok (.slice (some ⟨w.heap.size, 0, none⟩) n n) w1 ∧ Hid (InJ w n w.heap.size [] w1) := by
  obtain ⟨j0, hj0, hy0, hy1, hy2⟩ := info_parts info_bool
  obtain ⟨w1, hrun, r1, r2⟩ := run_make_full (P := Try.prog) w w.heap.size 44 4 j0 _ 1 Try.underlying44 hj0 hy0 hy1 .i64 .i64 n (by rw [hy2]; omega) (by rw [maxLen_val]; omega) (Nat.le_refl _)
  rw [made_false, ← InRow_nil] at r1
  exact ⟨w1, hrun, Lib.hid ⟨r1, (Kp.grown r2).mono (fun k _ e => by cases e)⟩⟩
def RpR (w : World) (n g : Nat) (l : List Nat) (gk : Nat) (s : Value) (x : World) : Prop := ∃ i, i + gk = l.length ∧ s = .int .i64 (i : Int) ∧ InJ w n g (l.take i) x ∧ (l.take i).Nodup

set_option maxRecDepth 100000 in
set_option maxHeartbeats 1000000 in
theorem repeats_ok {p : Nat} {M : Mgr} {L : Lay} (l : List Nat) (hl : l.length ≤ 1000000) (hlv : ∀ v, v ∈ l → v < M.n) {dv : Value} {w : World} (R : Rep w p M L) (hn : M.n ≤ 256) (hd : SrcAt w dv 1 l.length (l.map natV)) (b : Bool) (hb : b = true ↔ ¬ l.Nodup) :
    Calls Try.prog 56 #[ptr p, dv] w fun e w' => e = .returned (.bool b) ∧ Kp No w w' := by
  have VARS := Lib.hid (vars_ok R)
  unfold natV at VARS
  obtain ⟨w1, hmk, J1⟩ := InJ.start w M.n hn
  have HD : Hid (∀ y, Kp No w y → SrcAt y dv 1 l.length (l.map natV)) := Lib.hid (fun y ky => hd.no ky)
  obtain ⟨ao, cp, rfl⟩ := hd.form
  have HB := Lib.hid hb
  have LV := Lib.hid hlv
  have hli : (l.length : Int) ≤ 1000000 := by omega
  have hni : (M.n : Int) ≤ 256 := by omega
  have J0 : Hid (RpR w M.n w.heap.size l l.length (.int .i64 0) w1) := Lib.hid ⟨0, by omega, rfl, J1.out, List.nodup_nil⟩
  clear R hd hb hlv J1 hn
  generalize M.n = n at *
  go_enter Try.func56, Try.ntmps56
  go_wp2_with fail
  refine VARS.out.mono ?_
  rintro e w' ⟨rfl, rfl⟩
  go_wp2_with fail
  clear hmk VARS
  go_loopg [13] l.length (fun gk s x => RpR w n w.heap.size l gk s x)
  case atStart => exact J0.out
  case round =>
    clear J0
    obtain ⟨i, hi, rfl, j, nd⟩ := hrel
    by_cases hlt : i < l.length
    · obtain ⟨g1, o1, c1, hv1, _, hcell⟩ := (HD.out wr j.kp).cellAt (by omega)
      have hv2 : ao = some ⟨g1, o1, none⟩ := by injection hv1
      subst hv2
      have hc := hcell i (natV (l.getD i 0)) (by simp [hlt])
      unfold natV at hc
      have hmem : l.getD i 0 ∈ l := by rw [List.getD_eq_getElem?_getD, List.getElem?_eq_getElem hlt]; exact List.getElem_mem hlt
      have hvn := LV.out _ hmem
      obtain ⟨cu, zu⟩ := j.cell hvn
      have hlti : (i : Int) < l.length := by omega
      have ho : (l.getD i 0 : Int) < n := by omega
      have hwlt : w.heap.size < wr.heap.size := j.ge.2
      have HI := Lib.hid hi
      have et : l.take (i + 1) = l.take i ++ [l.getD i 0] := by rw [List.take_succ_eq_append_getElem hlt]; simp [hlt]
      by_cases hin : l.getD i 0 ∈ l.take i
      · have KW := Lib.hid j.kp
        obtain rfl : b = true := HB.out.2 (fun h => by
          have h2 : (l.take (i + 1)).Nodup := h.sublist (List.take_sublist _ _)
          rw [et, List.nodup_append] at h2
          exact h2.2.2 _ hin _ (by simp) rfl)
        rw [decide_eq_true hin] at cu
        clear hcell hv1 hi j nd et hin hmem hvn
        generalize l.getD i 0 = y at *
        go_wp2_with fail
        go_ret
        exact ⟨rfl, KW.out⟩
      · have JN : Hid (RpR w n w.heap.size l (l.length - (i + 1)) (.int .i64 ((i + 1 : Nat) : Int)) (wr.setCell ⟨w.heap.size, l.getD i 0, none⟩ (.bool true))) := Lib.hid ⟨i + 1, by omega, rfl, by rw [et]; exact j.put _, by
          rw [et, List.nodup_append]
          refine ⟨nd, by simp, fun a ha c hc e => ?_⟩
          rw [List.mem_singleton] at hc
          rw [e, hc] at ha
          exact hin ha⟩
        rw [decide_eq_false hin] at cu
        clear hcell hv1 hi j nd et hin hmem hvn
        generalize l.getD i 0 = y at *
        go_wp2_with fail
        go_roundg (l.length - (i + 1))
        case measure => have := HI.out; omega
        case rel => exact JN.out
    · obtain rfl : i = l.length := by omega
      rw [List.take_length] at nd
      obtain rfl : b = false := by
        cases hb : b
        · rfl
        · exact (HB.out.1 hb nd).elim
      have KW := Lib.hid j.kp
      have hge : ¬ (l.length : Int) < l.length := by omega
      clear hi j nd hlt
      go_wp2_with fail
      go_ret
      exact ⟨rfl, KW.out⟩

end Go.Proofs.Ytngbodmooddjbaa

namespace Go.Proofs.Ytngbodmooddjbaa
open Go.RowKit

/-- What a memo says goes on to hold. -/
def IOk (bs : Nat) (I : Mgr → World → Prop) : Prop := ∀ (M M' : Mgr) (w w' : World) (A : Nat → Prop), M.WF → Mgr.Ext M M' → Kp A w w' → ¬ A bs → I M w → I M' w'

/-- The manager at p, a memo at bs, blocks that stay. -/
structure Sk (w0 : World) (p : Nat) (L0 : Lay) (bs : Nat) (X : List (Nat × Obj)) (I : Mgr → World → Prop) (w : World) (M : Mgr) (L : Lay) : Prop where
  rep : Rep w p M L
  kp : Kp (fun x => L0.at p x ∨ x = bs) w0 w
  fr : Fresh (L0.at p) (L.at p) w0
  memo : I M w
  lt : bs < w.heap.size
  nb : ¬ L.at p bs
  keep : ∀ b o, (b, o) ∈ X → w.heap[b]? = some o ∧ ¬ L.at p b ∧ b ≠ bs

section
variable {w0 w w' : World} {p bs : Nat} {L0 L L' : Lay} {X : List (Nat × Obj)} {I : Mgr → World → Prop} {M M' : Mgr}
theorem Sk.no (ok : IOk bs I) (s : Sk w0 p L0 bs X I w M L) (h : Kp No w w') : Sk w0 p L0 bs X I w' M L :=
  ⟨s.rep.no h, s.kp.trans_no h, s.fr, ok M M w w' No s.rep.wf (.refl M) h (fun x => x) s.memo, Nat.lt_of_lt_of_le s.lt h.size, s.nb, fun b o hb => by
    obtain ⟨h1, h2, h3⟩ := s.keep b o hb
    exact ⟨by rw [h.block b (heap_lt h1) (fun x => x)]; exact h1, h2, h3⟩⟩
theorem Sk.step (ok : IOk bs I) {v : Value} {e : Ending} (s : Sk w0 p L0 bs X I w M L) (x : Mgr.Ext M M') (h : Ret p L w M' v e w') : e = .returned v ∧ ∃ L', Sk w0 p L0 bs X I w' M' L' := by
  obtain ⟨L', he, rep, k, f⟩ := h
  refine ⟨he, L', rep, s.kp.trans (A' := fun x => L.at p x ∨ x = bs) (fun y hy => ?_) (k.mono (fun y _ hy => .inl hy)), fun y hy => ?_, ok M M' w w' _ s.rep.wf x k s.nb s.memo, Nat.lt_of_lt_of_le s.lt k.size, fun hb => ?_, fun b o hb => ?_⟩
  · rcases hy with hy | hy
    · rcases s.fr y hy with h | h
      · exact .inl (.inl h)
      · exact .inr h
    · exact .inl (.inr hy)
  · rcases f y hy with h | h
    · exact s.fr y h
    · right; have := s.kp.size; omega
  · rcases f bs hb with h | h
    · exact s.nb h
    · have := s.lt; omega
  · obtain ⟨h1, h2, h3⟩ := s.keep b o hb
    refine ⟨by rw [k.block b (heap_lt h1) h2]; exact h1, fun hx => ?_, h3⟩
    rcases f b hx with h | h
    · exact h2 h
    · have := heap_lt h1; omega
theorem Sk.trans {X' : List (Nat × Obj)} (s : Sk w0 p L0 bs X I w M L) (t : Sk w p L bs X' I w' M' L') (hX : ∀ b o, (b, o) ∈ X → (b, o) ∈ X') : Sk w0 p L0 bs X I w' M' L' := by
  refine ⟨t.rep, s.kp.trans (A' := fun x => L.at p x ∨ x = bs) (fun x hx => ?_) t.kp, fun x hx => ?_, t.memo, t.lt, t.nb, fun b o hb => t.keep b o (hX b o hb)⟩
  · rcases hx with hx | hx
    · rcases s.fr x hx with h | h
      · exact .inl (.inl h)
      · exact .inr h
    · exact .inl (.inr hx)
  · rcases t.fr x hx with h | h
    · exact s.fr x h
    · right; have := s.kp.size; omega
/-- From here on. -/
theorem Sk.here (s : Sk w0 p L0 bs X I w M L) : Sk w p L bs X I w M L := ⟨s.rep, Kp.refl _ _, fun _ h => .inl h, s.memo, s.lt, s.nb, s.keep⟩
theorem Sk.sub {X' : List (Nat × Obj)} (s : Sk w0 p L0 bs X I w M L) (h : ∀ b o, (b, o) ∈ X' → (b, o) ∈ X) : Sk w0 p L0 bs X' I w M L := ⟨s.rep, s.kp, s.fr, s.memo, s.lt, s.nb, fun b o hb => s.keep b o (h b o hb)⟩
/-- A new block that stays. -/
theorem Sk.box (ok : IOk bs I) (s : Sk w0 p L0 bs X I w M L) (cs : Array Value) (t : TypeId) : Sk w0 p L0 bs ((w.heap.size, .cells cs t (0, 0)) :: X) I (w.alloc (.cells cs t)) M L := by
  have s' := s.no ok (Kp.alloc (.cells cs t))
  refine ⟨s'.rep, s'.kp, s'.fr, s'.memo, s'.lt, s'.nb, fun b o hb => ?_⟩
  rcases List.mem_cons.1 hb with e | hb
  · cases e
    exact ⟨heap_alloc_new _ _, fun h => by have := s.rep.lt _ h; omega, fun h => by have := s.lt; omega⟩
  · exact s'.keep b o hb
/-- The memo is updated. -/
theorem Sk.upd (s : Sk w0 p L0 bs X I w M L) (k : Kp (fun x => x = bs) w w') (m : I M w') : Sk w0 p L0 bs X I w' M L :=
  ⟨s.rep.kp k (fun y e => by rw [e]; exact s.nb), s.kp.trans (A' := fun y => y = bs) (fun y e => .inl (.inr e)) (k.mono (fun _ _ e => e)), s.fr, m, Nat.lt_of_lt_of_le s.lt k.size, s.nb, fun b o hb => by
    obtain ⟨h1, h2, h3⟩ := s.keep b o hb
    exact ⟨by rw [k.block b (heap_lt h1) h3]; exact h1, h2, h3⟩⟩
theorem Sk.cell (s : Sk w0 p L0 bs X I w M L) {b i : Nat} {cs : Array Value} {t : TypeId} {v : Value} (h : (b, .cells cs t (0, 0)) ∈ X) (hv : cs[i]? = some v) : w.cell? ⟨b, i, none⟩ = some v ∧ b < w.heap.size := by
  obtain ⟨h1, _, _⟩ := s.keep _ _ h
  exact ⟨by rw [cell_of_row _ _ _ _ _ _ h1]; exact hv, heap_lt h1⟩
end

/-! ### the plain law of products -/
def andF (M : Mgr) (f g : Nat) : Bfn := fun a => M.sem f a && M.sem g a
theorem andF_ext {M M' : Mgr} (h : M.WF) (e : Mgr.Ext M M') {f g : Nat} (hf : M.stored f) (hg : M.stored g) : andF M' f g = andF M f g := funext fun a => by unfold andF; rw [e.sem h hf, e.sem h hg]
theorem andF_reads {M : Mgr} (h : M.WF) {f g d : Nat} (hf : M.stored f) (hg : M.stored g) (df : d ≤ M.depth f) (dg : d ≤ M.depth g) : M.Reads d (andF M f g) := fun a b hab => by
  unfold andF
  rw [Mgr.sem_agree h _ f hf (Nat.le_refl _) a b (fun v hv x => hab v hv (by omega)), Mgr.sem_agree h _ g hg (Nat.le_refl _) a b (fun v hv x => hab v hv (by omega))]

namespace Mgr
theorem reads_depth {M : Mgr} (h : M.WF) {r d : Nat} (hr : M.stored r) (hR : M.Reads d (M.sem r)) (hd : d ≤ M.n) : d ≤ M.depth r := by
  rcases Nat.lt_or_ge (M.depth r) d with hlt | hge
  · exfalso
    have h2 : 2 ≤ r := by
      rcases Nat.lt_or_ge r 2 with h2 | h2
      · have := M.depth_const h2; omega
      · exact h2
    obtain ⟨v0, v1, _⟩ := node_of h hr h2
    have hdd : M.depth r = M.lev (M.nd r).1.toNat := by unfold depth; rw [if_neg (by omega)]
    refine not_indep h (fun f g hf hg e => canon h hf hg e) hr h2 (fun a => hR _ _ (fun v hv hdv => ?_))
    have : v ≠ (M.nd r).1.toNat := fun e => by subst e; omega
    rw [upd_other _ _ _ _ this, upd_other _ _ _ _ this]
  · exact hge

/-- The answer of a product. -/
structure Pro (M : Mgr) (l : List Nat) (F : Bfn) (M' : Mgr) (r : Nat) : Prop where
  ad : Adds M M' (M.ProF l F)
  st : M'.stored r
  sem : ∀ a, M'.sem r a = exQ l F a

theorem Pro.there {M : Mgr} (h : M.WF) {l : List Nat} {F : Bfn} {r : Nat} (st : M.stored r) (e : ∀ a, M.sem r a = exQ l F a) : Pro M l F M r := ⟨Adds.refl h _, st, e⟩
theorem Pro.mk' {M M' : Mgr} {l : List Nat} {F : Bfn} {r : Nat} (ad : Adds M M' (M.Cof (exQ l F))) (st : M'.stored r) (e : ∀ a, M'.sem r a = exQ l F a) : Pro M l F M' r := ⟨ad.mono (fun _ g => ProF.self M l F g), st, e⟩

/-- No quantified variable at or behind the level d. -/
theorem exQ_deep {M : Mgr} {l : List Nat} {F : Bfn} {d : Nat} (hF : M.Reads d F) (hl : ∀ v, v ∈ l → v < M.n → M.lev v < d) : exQ l F = F :=
  exQ_none (fun a b hab => hF a b (fun v hv hd => hab v (fun hvl => by have := hl v hvl hv; omega)))

section
variable {M M1 M2 : Mgr} {l : List Nat} {F : Bfn} {v r0 r1 : Nat}
theorem upd_self (a : Nat → Bool) (v : Nat) : upd a v (a v) = a := by
  funext u; unfold upd; split
  · rename_i e; rw [e]
  · rfl
theorem Pro.reads (h : M.WF) (hv : v < M.n) (hF : M.Reads (M.lev v) F) (x : Bool) : M.Reads (M.lev v + 1) (fun a => F (upd a v x)) := fun a b hab => hF _ _ (fun u hu hd => by
  by_cases e : u = v
  · subst e; rw [upd_same, upd_same]
  · rw [upd_other _ _ _ _ e, upd_other _ _ _ _ e]
    have : M.lev u ≠ M.lev v := fun q => e (lev_inj h hu hv q)
    exact hab u hu (by omega))
theorem Pro.two (h : M.WF) (hv : v < M.n) (hF : M.Reads (M.lev v) F) (p0 : Pro M l (fun a => F (upd a v false)) M1 r0) (p1 : Pro M1 l (fun a => F (upd a v true)) M2 r1) : Adds M M2 (M.ProF l F) ∧ (∀ a, M2.sem r0 a = exQ l (fun a => F (upd a v false)) a) ∧ M2.stored r0 := by
  refine ⟨(p0.ad.mono (fun G g => ProF.upd h hv hF g)).trans (p1.ad.mono (fun G g => ?_)), fun a => by rw [p1.ad.ext.sem p0.ad.wf p0.st, p0.sem], p1.ad.ext.stored p0.st⟩
  exact ProF.upd h hv hF ((ProF.ext p0.ad.ext).1 g)
/-- A variable that is not quantified. -/
theorem Pro.join (h : M.WF) (hv : v < M.n) (hF : M.Reads (M.lev v) F) (hl : v ∉ l) (p0 : Pro M l (fun a => F (upd a v false)) M1 r0) (p1 : Pro M1 l (fun a => F (upd a v true)) M2 r1) : v < M2.n ∧ Pro M l F (M2.joinM v r0 r1).1 (M2.joinM v r0 r1).2 ∧ Ext M2 (M2.joinM v r0 r1).1 := by
  obtain ⟨ad, s0, t0⟩ := Pro.two h hv hF p0 p1
  have hn : M2.n = M.n := ad.ext.n
  have hlev : ∀ u, M2.lev u = M.lev u := ad.ext.lev
  have w2 := p1.ad.wf
  have rd : ∀ x, M2.Reads (M2.lev v + 1) (exQ l fun a => F (upd a v x)) := fun x => by
    rw [hlev]; exact Reads.ext ad.ext (exQ_reads (Pro.reads h hv hF x))
  have hlv := (h.ol v hv).1
  have d0 : M2.lev v < M2.depth r0 := reads_depth w2 t0 (by rw [show M2.sem r0 = _ from funext s0]; exact rd false) (by rw [hlev]; omega)
  have d1 : M2.lev v < M2.depth r1 := reads_depth w2 p1.st (by rw [show M2.sem r1 = _ from funext p1.sem]; exact rd true) (by rw [hlev]; omega)
  have ej : M2.joinM v r0 r1 = M2.put v r0 r1 := if_pos ⟨d0, d1⟩
  have eF : joinF M2 v r0 r1 = exQ l F := by
    funext a
    unfold joinF
    rw [s0, p1.sem, exQ_free hl, exQ_free hl]
    cases hb : a v
    · simp only [Bool.false_eq_true, if_false]; rw [← hb, upd_self]
    · simp only [if_true]; rw [← hb, upd_self]
  have js := join_spec w2 (v := v) (by omega) t0 p1.st
  have pa := put_adds w2 (v := v) (by omega) t0 p1.st d0 d1
  rw [← ej] at pa
  refine ⟨by omega, ⟨ad.trans (pa.mono (fun G g => ProF.self M l F (by rw [g, eF]; exact Cof.self M _))), js.st, fun a => by rw [js.sem, eF]⟩, js.ext⟩
/-- A quantified variable. -/
theorem Pro.apply (h : M.WF) (hv : v < M.n) (hF : M.Reads (M.lev v) F) (hl : v ∈ l) (p0 : Pro M l (fun a => F (upd a v false)) M1 r0) (p1 : Pro M1 l (fun a => F (upd a v true)) M2 r1) :
    Pro M l F (build M2.n M2 (iteF M2 r0 1 r1)).1 (build M2.n M2 (iteF M2 r0 1 r1)).2 ∧ Ext M2 (build M2.n M2 (iteF M2 r0 1 r1)).1 := by
  obtain ⟨ad, s0, t0⟩ := Pro.two h hv hF p0 p1
  have w2 := p1.ad.wf
  have eF : iteF M2 r0 1 r1 = exQ l F := by
    funext a
    unfold iteF
    rw [sem_one, s0, p1.sem, exQ_split hl F a]
    cases exQ l (fun a => F (upd a v false)) a <;> rfl
  have hr : M2.Reads (M2.n - M2.n) (iteF M2 r0 1 r1) := iteF_reads w2 t0 (.inl (by omega)) p1.st (by omega) (by omega) (by omega)
  have sp := build_spec M2.n M2 w2 (Nat.le_refl _) _ hr
  have ba := build_adds w2 (Nat.le_refl _) hr
  refine ⟨⟨ad.trans (ba.mono (fun G g => ProF.self M l F ?_)), sp.st, fun a => by rw [sp.sem, eF]⟩, sp.ext⟩
  rw [eF] at g
  obtain ⟨d, a, rfl⟩ := g
  exact ⟨d, a, funext fun b => by rw [ad.ext.mix]⟩
theorem Pro.full (h : M.WF) (hv : v < M.n) (hF : M.Reads (M.lev v) F) (hl : v ∈ l) (p0 : Pro M l (fun a => F (upd a v false)) M1 1) : Pro M l F M1 1 := by
  refine ⟨p0.ad.mono (fun G g => ProF.upd h hv hF g), .inl (by omega), fun a => ?_⟩
  have := p0.sem a
  rw [sem_one] at this ⊢
  rw [exQ_split hl F a, ← this]; rfl
/-- Nothing left to quantify. -/
theorem Pro.deep {f g : Nat} (h : M.WF) (hf : M.stored f) (hg : M.stored g) (e : exQ l (andF M f g) = andF M f g) :
    Pro M l (andF M f g) (build M.n M (iteF M f g 0)).1 (build M.n M (iteF M f g 0)).2 ∧ Ext M (build M.n M (iteF M f g 0)).1 := by
  have eF : iteF M f g 0 = exQ l (andF M f g) := by
    rw [e]; funext a; unfold iteF andF; rw [sem_zero]; cases M.sem f a <;> simp
  have hr : M.Reads (M.n - M.n) (iteF M f g 0) := iteF_reads h hf hg (.inl (by omega)) (by omega) (by omega) (by omega)
  have sp := build_spec M.n M h (Nat.le_refl _) _ hr
  have ba := build_adds h (Nat.le_refl _) hr
  rw [eF] at ba
  exact ⟨Pro.mk' (by rw [eF]; exact ba) sp.st (fun a => by rw [sp.sem, eF]), sp.ext⟩
end
end Mgr

end Go.Proofs.Ytngbodmooddjbaa
