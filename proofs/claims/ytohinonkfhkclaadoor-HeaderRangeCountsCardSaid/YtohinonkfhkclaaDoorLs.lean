/-
  Plain mathematics: which functions the new nodes of an operation denote, and how many these are; quantified functions.
-/
import Derived.Test.YtohinonkfhkclaaDoorQ
import Derived.Test.YtohinonkfhkclaaDoorOps
namespace Go.Proofs.YtohinonkfhkclaaDoor

/-! ### lists of functions -/
/-- At most N functions. -/
def Listed (Φ : Bfn → Prop) (N : Nat) : Prop := ∃ e : Nat → Bfn, ∀ G, Φ G → ∃ i, i < N ∧ e i = G
theorem Listed.mono {Φ Ψ : Bfn → Prop} {N K : Nat} (h : Listed Ψ N) (i : ∀ G, Φ G → Ψ G) (k : N ≤ K) : Listed Φ K := by
  obtain ⟨e, he⟩ := h
  exact ⟨e, fun G hG => by obtain ⟨j, hj, ej⟩ := he G (i G hG); exact ⟨j, by omega, ej⟩⟩
theorem Listed.or {Φ Ψ : Bfn → Prop} {N K : Nat} (h : Listed Φ N) (g : Listed Ψ K) : Listed (fun G => Φ G ∨ Ψ G) (N + K) := by
  obtain ⟨e, he⟩ := h
  obtain ⟨d, hd⟩ := g
  refine ⟨fun i => if i < N then e i else d (i - N), fun G hG => ?_⟩
  rcases hG with hG | hG
  · obtain ⟨i, hi, rfl⟩ := he G hG
    exact ⟨i, by omega, if_pos hi⟩
  · obtain ⟨i, hi, rfl⟩ := hd G hG
    refine ⟨N + i, by omega, ?_⟩
    show (if N + i < N then _ else _) = _
    rw [if_neg (by omega), Nat.add_sub_cancel_left]
theorem Listed.one (F : Bfn) : Listed (fun G => G = F) 1 := ⟨fun _ => F, fun G h => ⟨0, by omega, h.symm⟩⟩
/-- Functions that a code tells apart. -/
theorem Listed.code {A : Type} {P : A → Prop} {Φ : Bfn → Prop} {N : Nat} (f : A → Bfn) (c : A → Nat) (hc : ∀ x, P x → c x < N) (same : ∀ x y, P x → P y → c x = c y → f x = f y) (h : ∀ G, Φ G → ∃ x, P x ∧ f x = G) : Listed Φ N := by
  classical
  refine ⟨fun i => if h : ∃ x, P x ∧ c x = i then f h.choose else fun _ => false, fun G hG => ?_⟩
  obtain ⟨x, px, rfl⟩ := h G hG
  refine ⟨c x, hc x px, ?_⟩
  have ex : ∃ y, P y ∧ c y = c x := ⟨x, px, rfl⟩
  show (if h : ∃ y, P y ∧ c y = c x then f h.choose else _) = _
  rw [dif_pos ex]
  exact same _ _ ex.choose_spec.1 px ex.choose_spec.2

namespace Mgr

/-- M' has what M has and new nodes of functions of Φ. -/
structure Adds (M M' : Mgr) (Φ : Bfn → Prop) : Prop where
  wf : M'.WF
  ext : Ext M M'
  new : ∀ i, M.nodes.length ≤ i → i < M'.nodes.length → M'.stored i ∧ Φ (M'.sem i)

theorem Adds.refl {M : Mgr} (h : M.WF) (Φ : Bfn → Prop) : Adds M M Φ := ⟨h, .refl M, fun i h1 h2 => by omega⟩
theorem Adds.mono {M M' : Mgr} {Φ Ψ : Bfn → Prop} (h : Adds M M' Φ) (i : ∀ G, Φ G → Ψ G) : Adds M M' Ψ := ⟨h.wf, h.ext, fun j h1 h2 => ⟨(h.new j h1 h2).1, i _ (h.new j h1 h2).2⟩⟩
theorem Adds.trans {M M' M'' : Mgr} {Φ : Bfn → Prop} (h : Adds M M' Φ) (h' : Adds M' M'' Φ) : Adds M M'' Φ :=
  ⟨h'.wf, h.ext.trans h'.ext, fun i h1 h2 => by
    rcases Nat.lt_or_ge i M'.nodes.length with hi | hi
    · obtain ⟨s, p⟩ := h.new i h1 hi
      refine ⟨h'.ext.stored s, ?_⟩
      have e : M''.sem i = M'.sem i := funext fun a => h'.ext.sem h.wf s a
      rw [e]; exact p
    · exact h'.new i hi h2⟩

theorem Adds.len {M M' : Mgr} {Φ : Bfn → Prop} {N : Nat} (h : Adds M M' Φ) (l : Listed Φ N) : M'.nodes.length ≤ M.nodes.length + N := by
  obtain ⟨e, he⟩ := l
  have ex : ∀ i, ∃ j, M.nodes.length ≤ i → i < M'.nodes.length → j < N ∧ e j = M'.sem i := fun i => by
    by_cases hi : M.nodes.length ≤ i ∧ i < M'.nodes.length
    · obtain ⟨j, hj, ej⟩ := he _ (h.new i hi.1 hi.2).2
      exact ⟨j, fun _ _ => ⟨hj, ej⟩⟩
    · exact ⟨0, fun a b => (hi ⟨a, b⟩).elim⟩
  obtain ⟨c, hc⟩ := Classical.axiomOfChoice ex
  have hnd : ((List.range (M'.nodes.length - M.nodes.length)).map (fun i => c (M.nodes.length + i))).Nodup := by
    rw [List.nodup_iff_pairwise_ne, List.pairwise_map]
    have hr : (List.range (M'.nodes.length - M.nodes.length)).Nodup := List.nodup_range
    rw [List.nodup_iff_pairwise_ne] at hr
    refine hr.imp_of_mem (fun {x y} hx hy hne q => hne ?_)
    simp only [List.mem_range] at hx hy
    obtain ⟨_, e1⟩ := hc (M.nodes.length + x) (by omega) (by omega)
    obtain ⟨_, e2⟩ := hc (M.nodes.length + y) (by omega) (by omega)
    have s1 := (h.new (M.nodes.length + x) (by omega) (by omega)).1
    have s2 := (h.new (M.nodes.length + y) (by omega) (by omega)).1
    have := canon h.wf s1 s2 (fun a => by rw [← e1, ← e2, q])
    omega
  have := nodup_length _ (List.range N) hnd (fun x hx => by
    simp only [List.mem_map, List.mem_range] at hx ⊢
    obtain ⟨i, hi, rfl⟩ := hx
    exact (hc (M.nodes.length + i) (by omega) (by omega)).1)
  simp only [List.length_map, List.length_range] at this
  omega

/-- The cofactors of F. -/
def Cof (M : Mgr) (F : Bfn) (G : Bfn) : Prop := ∃ d a, G = fun b => F (M.mix d a b)
theorem mix_zero (M : Mgr) (a b : Nat → Bool) : M.mix 0 a b = b := by funext v; unfold mix; rw [if_neg (by omega)]
theorem Cof.self (M : Mgr) (F : Bfn) : M.Cof F F := ⟨0, fun _ => false, by funext b; rw [mix_zero]⟩

theorem build_adds {k : Nat} {M : Mgr} (h : M.WF) (hk : k ≤ M.n) {F : Bfn} (hF : M.Reads (M.n - k) F) : Adds M (build k M F).1 (M.Cof F) := by
  have s := build_spec k M h hk F hF
  have hn := build_new k M h hk F hF
  refine ⟨s.wf, s.ext, fun i h1 h2 => ?_⟩
  have r := hn i h1 h2
  obtain ⟨st, _, _⟩ := Reach.spec s.wf s.st r
  obtain ⟨a, ha⟩ := Reach.cof s.wf s.st r
  refine ⟨st, (build k M F).1.depth i, a, funext fun b => ?_⟩
  rw [ha, s.sem, s.ext.mix]

theorem put_adds {M : Mgr} (h : M.WF) {v lo hi : Nat} (hv : v < M.n) (hl : M.stored lo) (hh : M.stored hi) (dl : M.lev v < M.depth lo) (dh : M.lev v < M.depth hi) :
    Adds M (M.put v lo hi).1 (fun G => G = joinF M v lo hi) := by
  have s := put_spec h hv hl hh dl dh
  refine ⟨s.wf, s.ext, fun i h1 h2 => ?_⟩
  by_cases e : lo = hi
  · have : (M.put v lo hi).1 = M := by unfold put; rw [if_pos e]
    rw [this] at h2; omega
  · have := (put_nd (v := v) h e).2.2 i h1 h2
    subst this
    exact ⟨s.st, funext s.sem⟩

theorem join_adds {M : Mgr} (h : M.WF) {v lo hi : Nat} (hv : v < M.n) (hl : M.stored lo) (hh : M.stored hi) : Adds M (M.joinM v lo hi).1 (fun G => M.Cof (joinF M v lo hi) G ∨ G = fun a => a v) := by
  unfold joinM
  by_cases c : M.lev v < M.depth lo ∧ M.lev v < M.depth hi
  · rw [if_pos c]
    exact (put_adds h hv hl hh c.1 c.2).mono (fun G e => .inl (by rw [e]; exact Cof.self M _))
  · rw [if_neg c]
    have d0 := lev_lt_const h hv (f := 0) (by omega)
    have d1 := lev_lt_const h hv (f := 1) (by omega)
    have s := put_spec h hv (.inl (by omega)) (.inl (by omega)) d0 d1
    have ad := (put_adds h hv (.inl (by omega)) (.inl (by omega)) d0 d1).mono (Ψ := fun G => M.Cof (joinF M v lo hi) G ∨ G = fun a => a v) (fun G e => .inr (by
      rw [e]; funext a; unfold joinF; rw [sem_one, sem_zero]; cases a v <;> rfl))
    generalize M.put v 0 1 = b at *
    have hr : b.1.Reads (b.1.n - M.n) (iteF b.1 b.2 hi lo) := iteF_reads s.wf s.st (s.ext.stored hh) (s.ext.stored hl) (by rw [s.ext.n]; omega) (by rw [s.ext.n]; omega) (by rw [s.ext.n]; omega)
    have eF : iteF b.1 b.2 hi lo = joinF M v lo hi := by
      funext a
      unfold iteF joinF
      rw [s.sem, s.ext.sem h hh, s.ext.sem h hl]
      cases a v <;> simp
    refine ad.trans ((build_adds s.wf (by rw [s.ext.n]; omega) hr).mono (fun G g => .inl ?_))
    rw [eF] at g
    obtain ⟨d, a, rfl⟩ := g
    exact ⟨d, a, funext fun x => by rw [s.ext.mix]⟩

end Mgr

/-! ### quantified functions -/
/-- F with the variables of a list quantified. -/
def exQ : List Nat → Bfn → Bfn
  | [], F => F
  | v :: l, F => exQ l fun a => F (Mgr.upd a v false) || F (Mgr.upd a v true)

/-- a with the values of b for the variables of l. -/
def ovr (l : List Nat) (b a : Nat → Bool) : Nat → Bool := fun v => if v ∈ l then b v else a v
theorem exQ_iff : ∀ (l : List Nat) (F : Bfn) (a : Nat → Bool), exQ l F a = true ↔ ∃ b, F (ovr l b a) = true
  | [], F, a => by
    have e : ∀ b, ovr [] b a = a := fun b => funext fun v => by unfold ovr; simp
    simp only [exQ, e]
    exact ⟨fun h => ⟨a, h⟩, fun ⟨_, h⟩ => h⟩
  | v :: l, F, a => by
    simp only [exQ]
    rw [exQ_iff l]
    constructor
    · rintro ⟨b, h⟩
      rw [Bool.or_eq_true] at h
      have key : ∀ x, F (Mgr.upd (ovr l b a) v x) = true → ∃ b, F (ovr (v :: l) b a) = true := fun x hx => by
        refine ⟨Mgr.upd b v x, ?_⟩
        rw [← hx]
        congr 1
        funext u
        unfold ovr Mgr.upd
        by_cases e : u = v
        · simp [e]
        · simp [e]
      rcases h with h | h
      · exact key _ h
      · exact key _ h
    · rintro ⟨b, h⟩
      refine ⟨b, ?_⟩
      have e : ∀ x, b v = x → Mgr.upd (ovr l b a) v x = ovr (v :: l) b a := fun x hx => by
        funext u
        unfold ovr Mgr.upd
        by_cases e : u = v
        · simp [e, hx]
        · simp [e]
      cases hb : b v with
      | false => rw [e _ hb, h]; rfl
      | true => rw [e _ hb, h]; simp
theorem exQ_congr {l : List Nat} {F G : Bfn} (h : ∀ a, F a = G a) : exQ l F = exQ l G := by rw [show F = G from funext h]
theorem exQ_mem {l k : List Nat} (h : ∀ v, v ∈ l ↔ v ∈ k) (F : Bfn) : exQ l F = exQ k F := by
  funext a
  have e : ∀ b, ovr l b a = ovr k b a := fun b => funext fun v => by unfold ovr; simp only [h v]
  rw [Bool.eq_iff_iff, exQ_iff, exQ_iff]
  simp only [e]

/-- A variable that is not quantified. -/
theorem exQ_free {l : List Nat} {v : Nat} (hv : v ∉ l) (F : Bfn) (x : Bool) (a : Nat → Bool) : exQ l (fun b => F (Mgr.upd b v x)) a = exQ l F (Mgr.upd a v x) := by
  rw [Bool.eq_iff_iff, exQ_iff, exQ_iff]
  have e : ∀ b, Mgr.upd (ovr l b a) v x = ovr l b (Mgr.upd a v x) := fun b => by
    funext u
    unfold ovr Mgr.upd
    by_cases e : u = v
    · simp [e, hv]
    · simp [e]
  simp only [e]
/-- A variable that is. -/
theorem exQ_split {l : List Nat} {v : Nat} (hv : v ∈ l) (F : Bfn) (a : Nat → Bool) : exQ l F a = (exQ l (fun b => F (Mgr.upd b v false)) a || exQ l (fun b => F (Mgr.upd b v true)) a) := by
  rw [Bool.eq_iff_iff, Bool.or_eq_true, exQ_iff, exQ_iff, exQ_iff]
  have e : ∀ (b : Nat → Bool) (x : Bool), Mgr.upd (ovr l b a) v x = ovr l (Mgr.upd b v x) a := fun b x => by
    funext u
    unfold ovr Mgr.upd
    by_cases e : u = v
    · simp [e, hv]
    · simp [e]
  simp only [e]
  constructor
  · rintro ⟨b, h⟩
    have e2 : ∀ x, b v = x → Mgr.upd b v x = b := fun x hx => by
      funext u
      unfold Mgr.upd
      by_cases e : u = v
      · simp [e, hx]
      · simp [e]
    cases hb : b v with
    | false => exact .inl ⟨b, by rw [e2 _ hb]; exact h⟩
    | true => exact .inr ⟨b, by rw [e2 _ hb]; exact h⟩
  · rintro (⟨b, h⟩ | ⟨b, h⟩)
    · exact ⟨_, h⟩
    · exact ⟨_, h⟩
/-- Nothing that is read is quantified. -/
theorem exQ_none {l : List Nat} {F : Bfn} (h : ∀ a b, (∀ v, v ∉ l → a v = b v) → F a = F b) : exQ l F = F := by
  funext a
  rw [Bool.eq_iff_iff, exQ_iff]
  have e : ∀ b, F (ovr l b a) = F a := fun b => h _ _ (fun v hv => by unfold ovr; rw [if_neg hv])
  simp only [e]
  exact ⟨fun ⟨_, h⟩ => h, fun h => ⟨a, h⟩⟩
theorem exQ_const (l : List Nat) (c : Bool) : exQ l (fun _ => c) = fun _ => c := exQ_none (fun _ _ _ => rfl)
theorem exQ_reads {M : Mgr} {d : Nat} {l : List Nat} {F : Bfn} (h : M.Reads d F) : M.Reads d (exQ l F) := fun a b hab => by
  rw [Bool.eq_iff_iff, exQ_iff, exQ_iff]
  have e : ∀ c, F (ovr l c a) = F (ovr l c b) := fun c => h _ _ (fun v h1 h2 => by unfold ovr; split; rfl; exact hab v h1 h2)
  simp only [e]
theorem exQ_or (l : List Nat) (F G : Bfn) (a : Nat → Bool) : exQ l (fun b => F b || G b) a = (exQ l F a || exQ l G a) := by
  rw [Bool.eq_iff_iff, Bool.or_eq_true, exQ_iff, exQ_iff, exQ_iff]
  constructor
  · rintro ⟨b, h⟩
    rcases Bool.or_eq_true_iff.1 h with h | h
    · exact .inl ⟨b, h⟩
    · exact .inr ⟨b, h⟩
  · rintro (⟨b, h⟩ | ⟨b, h⟩)
    · exact ⟨b, by rw [h]; rfl⟩
    · exact ⟨b, by rw [h]; simp⟩
/-- What is quantified is not read. -/
theorem exQ_gone {l : List Nat} {v : Nat} (hv : v ∈ l) (F : Bfn) (x : Bool) (a : Nat → Bool) : exQ l F (Mgr.upd a v x) = exQ l F a := by
  rw [Bool.eq_iff_iff, exQ_iff, exQ_iff]
  have e : ∀ b, ovr l b (Mgr.upd a v x) = ovr l b a := fun b => funext fun u => by
    unfold ovr Mgr.upd
    by_cases e : u = v
    · simp [e, hv]
    · simp [e]
  simp only [e]

/-! ### the product -/
namespace Mgr
/-- The functions of the nodes that a product makes. -/
def ProF (M : Mgr) (l : List Nat) (F : Bfn) (G : Bfn) : Prop := ∃ d' a', M.Cof (exQ l fun x => F (M.mix d' a' x)) G

theorem ProF.ext {M M' : Mgr} (e : Ext M M') {l : List Nat} {F G : Bfn} : M'.ProF l F G ↔ M.ProF l F G := by
  unfold ProF Cof
  simp only [e.mix]
theorem ProF.self (M : Mgr) (l : List Nat) (F : Bfn) {G : Bfn} (h : M.Cof (exQ l F) G) : M.ProF l F G := by
  refine ⟨0, fun _ => false, ?_⟩
  have e : (fun x => F (M.mix 0 (fun _ => false) x)) = F := funext fun x => by rw [mix_zero]
  rw [e]; exact h
/-- The families of the cofactors are parts of the family. -/
theorem ProF.upd {M : Mgr} (h : M.WF) {l : List Nat} {F G : Bfn} {v : Nat} {x : Bool} (hv : v < M.n) (hF : M.Reads (M.lev v) F) (g : M.ProF l (fun a => F (Mgr.upd a v x)) G) : M.ProF l F G := by
  obtain ⟨d', a', g⟩ := g
  by_cases hd : M.lev v < d'
  · refine ⟨d', Mgr.upd a' v x, ?_⟩
    have e : (fun y => F (M.mix d' (Mgr.upd a' v x) y)) = fun y => F (Mgr.upd (M.mix d' a' y) v x) := funext fun y => by
      congr 1; funext u
      unfold mix Mgr.upd
      by_cases e : u = v
      · subst e; simp [hd]
      · simp only [e, if_false]
    rw [e]; exact g
  · refine ⟨M.lev v + 1, Mgr.upd a' v x, ?_⟩
    have e : (fun y => F (M.mix (M.lev v + 1) (Mgr.upd a' v x) y)) = fun y => F (Mgr.upd (M.mix d' a' y) v x) := funext fun y => by
      refine hF _ _ (fun u hu hlu => ?_)
      unfold mix Mgr.upd
      by_cases e : u = v
      · subst e; simp
      · have : M.lev u ≠ M.lev v := fun q => e (lev_inj h hu hv q)
        have n1 : ¬ M.lev u < M.lev v + 1 := by omega
        have n2 : ¬ M.lev u < d' := by omega
        simp only [n1, n2, e, if_false]
    rw [e]; exact g
end Mgr

end Go.Proofs.YtohinonkfhkclaaDoor
