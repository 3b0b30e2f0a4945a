/-
  Plain mathematics: the list of nodes that 'Save' makes.
-/
import Derived.Test.YtngbodmooddjbaaGreatSave
namespace Go.Proofs.YtngbodmooddjbaaGreat

theorem lookR_get : ∀ (R : List Nat) (g i : Nat), lookR R g = some i → R.reverse[i]? = some g
  | [], g, i, h => by simp [lookR] at h
  | f :: R, g, i, h => by
    unfold lookR at h
    rw [List.reverse_cons]
    split at h
    · rename_i e
      cases h
      subst e
      rw [List.getElem?_append_right (by simp)]
      simp
    · have := lookR_get R g i h
      have hi : i < R.reverse.length := (List.getElem?_eq_some_iff.1 this).1
      rw [List.getElem?_append_left hi]
      exact this
theorem get_lookR : ∀ (R : List Nat) (g i : Nat), R.Nodup → R.reverse[i]? = some g → lookR R g = some i
  | [], g, i, _, h => by simp at h
  | f :: R, g, i, hn, h => by
    rw [List.nodup_cons] at hn
    rw [List.reverse_cons] at h
    unfold lookR
    by_cases hi : i < R.length
    · rw [List.getElem?_append_left (by simpa using hi)] at h
      have hg : g ∈ R := by have := List.mem_of_getElem? h; simpa using this
      rw [if_neg (fun e : g = f => hn.1 (e ▸ hg))]
      exact get_lookR R g i hn.2 h
    · have hi2 : i < (R.reverse ++ [f]).length := (List.getElem?_eq_some_iff.1 h).1
      have hi3 : i = R.length := by simp at hi2; omega
      subst hi3
      simp at h
      rw [if_pos h.symm]
theorem lookR_none {R : List Nat} {g : Nat} (h : g ∉ R) : lookR R g = none := by
  cases e : lookR R g with
  | none => rfl
  | some i => exact (h (by have := List.mem_of_getElem? (lookR_get R g i e); simpa using this)).elim

theorem nodup_rev {V : List Nat} (hn : V.Nodup) : V.reverse.Nodup := List.pairwise_reverse.2 (hn.imp (fun h => Ne.symm h))
theorem nodup_inj {V : List Nat} (hn : V.Nodup) {i j g : Nat} (h1 : V[i]? = some g) (h2 : V[j]? = some g) : i = j := by
  have e1 := get_lookR V.reverse g i (nodup_rev hn) (by simpa using h1)
  have e2 := get_lookR V.reverse g j (nodup_rev hn) (by simpa using h2)
  rw [e1] at e2
  exact Option.some.inj e2

theorem code0_at {V : List Nat} (hn : V.Nodup) {g i : Nat} (h : V[i]? = some g) : code0 V g = i + 2 := by
  unfold code0 idxF
  have : lookR V.reverse g = some i := get_lookR V.reverse g i (nodup_rev hn) (by simpa using h)
  simp [this]
theorem code0_low {V : List Nat} {g : Nat} (hg : g < 2) (h : g ∉ V) : code0 V g = g := by
  unfold code0 idxF
  have : lookR V.reverse g = none := lookR_none (by simpa using h)
  simp [this, hg]

/-- Each node stands behind its children. -/
def Topo (M : Mgr) (V : List Nat) : Prop := ∀ (i f : Nat), V[i]? = some f → (2 ≤ (M.nd f).2.1 → (M.nd f).2.1 ∈ V.take i) ∧ (2 ≤ (M.nd f).2.2 → (M.nd f).2.2 ∈ V.take i)

theorem Topo.snoc {M : Mgr} {V : List Nat} {f : Nat} (h : Topo M V) (h1 : 2 ≤ (M.nd f).2.1 → (M.nd f).2.1 ∈ V) (h2 : 2 ≤ (M.nd f).2.2 → (M.nd f).2.2 ∈ V) : Topo M (V ++ [f]) := by
  intro i g hg
  by_cases hi : i < V.length
  · rw [List.getElem?_append_left hi] at hg
    rw [List.take_append_of_le_length (by omega)]
    exact h i g hg
  · have hi2 : i < (V ++ [f]).length := (List.getElem?_eq_some_iff.1 hg).1
    have hi3 : i = V.length := by simp at hi2; omega
    subst hi3
    simp at hg
    subst hg
    rw [List.take_append_of_le_length (Nat.le_refl _), List.take_length]
    exact ⟨h1, h2⟩

theorem walk_topo {M : Mgr} (h : M.WF) : ∀ (k f : Nat) (s : List Nat × List Nat), M.stored f → M.n - M.depth f < k → (∀ g, g ∈ s.1 → M.depth f ≤ M.depth g → g ∈ s.2) → Topo M s.2 →
    Topo M (M.walkS k s f).2 ∧ (∀ g, g ∈ (M.walkS k s f).1 → g ∈ s.1 ∨ g ∈ (M.walkS k s f).2) ∧ (∀ g, g ∈ s.2 → g ∈ (M.walkS k s f).2) ∧ (2 ≤ f → f ∈ (M.walkS k s f).2)
  | 0, f, s, _, hk, _, _ => by omega
  | k + 1, f, s, hf, hk, hs, ht => by
    by_cases h2 : f < 2
    · have e : M.walkS (k + 1) s f = s := by unfold Mgr.walkS; rw [if_pos (.inl h2)]
      rw [e]
      exact ⟨ht, fun g hg => .inl hg, fun g hg => hg, fun x => by omega⟩
    · by_cases hfs : f ∈ s.1
      · have e : M.walkS (k + 1) s f = s := by unfold Mgr.walkS; rw [if_pos (.inr hfs)]
        rw [e]
        exact ⟨ht, fun g hg => .inl hg, fun g hg => hg, fun _ => hs f hfs (Nat.le_refl _)⟩
      · obtain ⟨_, _, sl, sh, _, dl, dh⟩ := Mgr.node_of h hf (by omega)
        have q1 := Mgr.depth_le h sl
        have q2 := Mgr.depth_le h sh
        have e : M.walkS (k + 1) s f = ((M.walkS k (M.walkS k (f :: s.1, s.2) (M.nd f).2.1) (M.nd f).2.2).1, (M.walkS k (M.walkS k (f :: s.1, s.2) (M.nd f).2.1) (M.nd f).2.2).2 ++ [f]) := by
          conv => lhs; unfold Mgr.walkS
          rw [if_neg (by simp; exact ⟨by omega, hfs⟩)]
        obtain ⟨a1, a2, a3, a4⟩ := walk_topo h k (M.nd f).2.1 (f :: s.1, s.2) sl (by omega) (fun g hg hd => by
          rcases List.mem_cons.1 hg with x | x
          · subst x; omega
          · exact hs g x (by omega)) ht
        obtain ⟨b1, b2, b3, b4⟩ := walk_topo h k (M.nd f).2.2 (M.walkS k (f :: s.1, s.2) (M.nd f).2.1) sh (by omega) (fun g hg hd => by
          rcases a2 g hg with x | x
          · rcases List.mem_cons.1 x with y | y
            · subst y; omega
            · exact a3 g (hs g y (by omega))
          · exact x) a1
        rw [e]
        refine ⟨b1.snoc (fun x => b3 _ (a4 x)) b4, fun g hg => ?_, fun g hg => List.mem_append_left _ (b3 g (a3 g hg)), fun _ => by simp⟩
        rcases b2 g hg with x | x
        · rcases a2 g x with y | y
          · rcases List.mem_cons.1 y with z | z
            · exact .inr (by simp [z])
            · exact .inl z
          · exact .inr (List.mem_append_left _ (b3 g y))
        · exact .inr (List.mem_append_left _ x)

/-- What is known of the list of visits of 'Save'. -/
structure SavV (M : Mgr) (s : List Nat × List Nat) : Prop extends SeenV M s where
  topo : Topo M s.2

theorem SavV.walk {M : Mgr} (h : M.WF) {s : List Nat × List Nat} (v : SavV M s) {f : Nat} (hf : M.stored f) : SavV M (M.walkS (M.n + 1) s f) ∧ (2 ≤ f → f ∈ (M.walkS (M.n + 1) s f).2) := by
  obtain ⟨a1, _, _, a4⟩ := walk_topo h (M.n + 1) f s hf (by omega) (fun g hg _ => (v.mem g).1 hg) v.topo
  exact ⟨⟨v.toSeenV.walk h hf, a1⟩, a4⟩

theorem SavV.nil (M : Mgr) : SavV M ([], []) := ⟨SeenV.nil M, fun i f hf => by simp at hf⟩

section
variable {M : Mgr} {s : List Nat × List Nat}

theorem SavV.child (v : SavV M s) {i f c : Nat} (hi : s.2[i]? = some f) (hc : c = (M.nd f).2.1 ∨ c = (M.nd f).2.2) : code0 (s.2.take (i + 1)) c = code0 s.2 c ∧ code0 s.2 c ≤ i + 1 ∧ (c < 2 ∨ c ∈ s.2) := by
  obtain ⟨t1, t2⟩ := v.topo i f hi
  have ht : 2 ≤ c → c ∈ s.2.take i := by rcases hc with rfl | rfl <;> assumption
  have low : ∀ g, g < 2 → g ∉ s.2 := fun g hg hm => by have := (v.st g hm).2; omega
  by_cases h2 : c < 2
  · rw [code0_low h2 (low c h2), code0_low h2 (fun hm => low c h2 (List.mem_of_mem_take hm))]
    exact ⟨rfl, by omega, .inl h2⟩
  · have hm := ht (by omega)
    obtain ⟨j, hj⟩ := List.mem_iff_getElem?.1 hm
    have hjl : j < (s.2.take i).length := (List.getElem?_eq_some_iff.1 hj).1
    rw [List.length_take] at hjl
    have hj2 : s.2[j]? = some c := by rw [List.getElem?_take, if_pos (by omega)] at hj; exact hj
    have hj3 : (s.2.take (i + 1))[j]? = some c := by rw [List.getElem?_take, if_pos (by omega)]; exact hj2
    rw [code0_at v.nodup hj2, code0_at (List.Nodup.sublist (List.take_sublist _ _) v.nodup) hj3]
    exact ⟨rfl, by omega, .inr (List.mem_of_getElem? hj2)⟩

theorem SavV.code_inj (v : SavV M s) {c d : Nat} (hc : c < 2 ∨ c ∈ s.2) (hd : d < 2 ∨ d ∈ s.2) (e : code0 s.2 c = code0 s.2 d) : c = d := by
  have low : ∀ g, g < 2 → g ∉ s.2 := fun g hg hm => by have := (v.st g hm).2; omega
  have key : ∀ c, (c < 2 ∨ c ∈ s.2) → (c < 2 ∧ code0 s.2 c = c) ∨ ∃ i : Nat, s.2[i]? = some c ∧ code0 s.2 c = i + 2 := fun c hc => by
    by_cases h2 : c < 2
    · exact .inl ⟨h2, code0_low h2 (low c h2)⟩
    · obtain ⟨i, hi⟩ := List.mem_iff_getElem?.1 (hc.resolve_left h2)
      exact .inr ⟨i, hi, code0_at v.nodup hi⟩
  rcases key c hc with ⟨a, b⟩ | ⟨i, a, b⟩ <;> rcases key d hd with ⟨x, y⟩ | ⟨j, x, y⟩
  · omega
  · omega
  · omega
  · have : i = j := by omega
    subst this
    rw [a] at x
    exact Option.some.inj x

/-- The nodes, with the indices of their children. -/
theorem SavV.nodes (v : SavV M s) : saveN M s.2 = s.2.map fun f => ((M.nd f).1, code0 s.2 (M.nd f).2.1, code0 s.2 (M.nd f).2.2) := by
  apply List.ext_getElem?
  intro i
  simp only [saveN, List.getElem?_map]
  by_cases hi : i < s.2.length
  · have hg : s.2[i]? = some s.2[i] := by simp [hi]
    simp only [List.getElem?_range hi, Option.map_some, hg]
    have e : s.2.getD i 0 = s.2[i] := by simp [hi]
    rw [e, (v.child hg (.inl rfl)).1, (v.child hg (.inr rfl)).1]
  · rw [List.getElem?_eq_none (by simp; omega), List.getElem?_eq_none (by omega)]; rfl

theorem SavV.node_at (v : SavV M s) (h : M.WF) {i : Nat} {x : Nd} (hx : (saveN M s.2)[i]? = some x) : x.2.1 ≠ x.2.2 ∧ x.2.1 ≤ i + 1 ∧ x.2.2 ≤ i + 1 ∧ ∀ j, (saveN M s.2)[j]? = some x → j = i := by
  rw [v.nodes, List.getElem?_map] at hx
  obtain ⟨f, hf, rfl⟩ := Option.map_eq_some_iff.1 hx
  obtain ⟨st, h2⟩ := v.st f (List.mem_of_getElem? hf)
  obtain ⟨_, _, _, _, ne, _, _⟩ := Mgr.node_of h st h2
  have c1 := v.child hf (.inl rfl)
  have c2 := v.child hf (.inr rfl)
  refine ⟨fun e => ne (v.code_inj c1.2.2 c2.2.2 e), c1.2.1, c2.2.1, fun j hj => ?_⟩
  rw [v.nodes, List.getElem?_map] at hj
  obtain ⟨g, hg, e⟩ := Option.map_eq_some_iff.1 hj
  have d1 := v.child hg (.inl rfl)
  have d2 := v.child hg (.inr rfl)
  simp only [Prod.mk.injEq] at e
  obtain ⟨sg, g2⟩ := v.st g (List.mem_of_getElem? hg)
  have en : M.nd g = M.nd f := Prod.ext e.1 (Prod.ext (v.code_inj d1.2.2 c1.2.2 e.2.1) (v.code_inj d2.2.2 c2.2.2 e.2.2))
  have hgl : g < M.nodes.length ∧ (M.nd g).1 ≠ -1 := sg.resolve_left (by omega)
  have hfl : f < M.nodes.length ∧ (M.nd f).1 ≠ -1 := st.resolve_left (by omega)
  have egf : g = f := h.inj g f g2 h2 hgl.1 hfl.1 en hgl.2
  subst egf
  exact nodup_inj v.nodup hg hf

end

theorem walk_new {M : Mgr} (h : M.WF) (s : List Nat × List Nat) {f : Nat} (hf : M.stored f) : (M.walkS (M.n + 1) s f).2.length ≤ s.2.length + M.size f := by
  obtain ⟨N, sp⟩ := Mgr.walk_spec h (M.n + 1) f s hf (by omega)
  obtain ⟨_, hm, _⟩ := Mgr.nodesOf_spec h hf
  have := Mgr.nodup_length N (M.nodesOf f) sp.nodup (fun g hg => (hm g).2 (sp.reach g hg))
  rw [sp.vis, List.length_append]
  unfold Mgr.size
  omega

/-- All valid elements of the list are among the visits; the nodes are at most the sum of the sizes. -/
structure SavA (M : Mgr) (fs : List Int) (st : (List Nat × List Nat) × List Int) : Prop where
  v : SavV M st.1
  mem : ∀ f ∈ fs, M.valid f = true → 2 ≤ f.toNat → f.toNat ∈ st.1.2
  len : st.2.length = fs.length
  root : ∀ (i : Nat) (f : Int), fs[i]? = some f → st.2[i]? = some (if M.valid f = true then (code0 st.1.2 f.toNat : Int) else -1)
  sum : st.1.2.length ≤ (fs.map fun f => M.sizeM f).sum

theorem code0_grow {V W : List Nat} {c : Nat} (hn : (V ++ W).Nodup) (hlow : ∀ g, g ∈ V ++ W → 2 ≤ g) (hc : c < 2 ∨ c ∈ V) : code0 (V ++ W) c = code0 V c := by
  by_cases h2 : c < 2
  · rw [code0_low h2 (fun hm => by have := hlow c hm; omega), code0_low h2 (fun hm => by have := hlow c (List.mem_append_left _ hm); omega)]
  · obtain ⟨i, hi⟩ := List.mem_iff_getElem?.1 (hc.resolve_left h2)
    have hil : i < V.length := (List.getElem?_eq_some_iff.1 hi).1
    rw [code0_at hn (by rw [List.getElem?_append_left hil]; exact hi), code0_at (List.nodup_append.1 hn).1 hi]

theorem saveM_all {M : Mgr} (h : M.WF) : ∀ (fs : List Int), SavA M fs (saveM M fs) := by
  intro fs
  have key : ∀ k, k ≤ fs.length → SavA M (fs.take k) (saveM M (fs.take k)) := by
    intro k
    induction k with
    | zero => intro _; exact ⟨SavV.nil M, by simp, rfl, by simp, by simp [saveM]⟩
    | succ k ih =>
      intro hk
      have a := ih (by omega)
      have hk' : k < fs.length := by omega
      rw [List.take_succ_eq_append_getElem hk', saveM_snoc]
      have hlen : (fs.take k).length = k := by rw [List.length_take]; omega
      generalize fs[k] = f at *
      generalize fs.take k = gs at *
      generalize saveM M gs = st at *
      unfold saveStep
      by_cases hv : M.valid f = true
      · rw [if_pos hv]
        obtain ⟨n, rfl, sn, _⟩ := Mgr.valid_nat h hv
        rw [Int.toNat_natCast]
        obtain ⟨v', hin⟩ := a.v.walk h sn
        obtain ⟨N, sp⟩ := Mgr.walk_spec h (M.n + 1) n st.1 sn (by omega)
        have hgrow : ∀ c, (c < 2 ∨ c ∈ st.1.2) → code0 (M.walkS (M.n + 1) st.1 n).2 c = code0 st.1.2 c := fun c hc => by
          have h1 := v'.nodup
          have h2 : ∀ g, g ∈ (M.walkS (M.n + 1) st.1 n).2 → 2 ≤ g := fun g hg => (v'.st g hg).2
          rw [sp.vis] at h1 h2 ⊢
          exact code0_grow h1 h2 hc
        refine ⟨v', fun f hf hvf h2 => ?_, by simp [a.len], fun i f hf => ?_, ?_⟩
        · rcases List.mem_append.1 hf with x | x
          · show f.toNat ∈ (M.walkS (M.n + 1) st.1 n).2
            rw [sp.vis]
            exact List.mem_append_left _ (a.mem f x hvf h2)
          · simp at x
            subst x
            rw [Int.toNat_natCast] at h2 ⊢
            exact hin h2
        · rw [List.getElem?_append] at hf ⊢
          rw [a.len]
          split at hf
          · rename_i hi
            rw [if_pos hi, a.root i f hf]
            by_cases hvf : M.valid f = true
            · rw [if_pos hvf, if_pos hvf, hgrow]
              by_cases h2 : f.toNat < 2
              · exact .inl h2
              · exact .inr (a.mem f (List.mem_of_getElem? hf) hvf (by omega))
            · rw [if_neg hvf, if_neg hvf]
          · rename_i hi
            rw [if_neg hi]
            have e0 : i - gs.length = 0 := by
              rcases Nat.eq_zero_or_pos (i - gs.length) with e | e
              · exact e
              · rw [List.getElem?_eq_none (by simp; omega)] at hf; cases hf
            rw [e0] at hf ⊢
            simp at hf
            subst hf
            rw [if_pos hv, Int.toNat_natCast]
            rfl
        · have h1 := walk_new h st.1 sn
          have h2 := a.sum
          have h3 : M.sizeM (n : Int) = M.size n := by unfold Mgr.sizeM; rw [if_pos hv, Int.toNat_natCast]
          rw [List.map_append, List.sum_append]
          simp only [List.map_cons, List.map_nil, List.sum_cons, List.sum_nil, h3]
          omega
      · rw [if_neg hv]
        refine ⟨a.v, fun f hf hvf h2 => ?_, by simp [a.len], fun i f hf => ?_, ?_⟩
        · rcases List.mem_append.1 hf with x | x
          · exact a.mem f x hvf h2
          · simp at x
            subst x
            exact (hv hvf).elim
        · rw [List.getElem?_append] at hf ⊢
          rw [a.len]
          split at hf
          · rename_i hi
            rw [if_pos hi, a.root i f hf]
          · rename_i hi
            rw [if_neg hi]
            have e0 : i - gs.length = 0 := by
              rcases Nat.eq_zero_or_pos (i - gs.length) with e | e
              · exact e
              · rw [List.getElem?_eq_none (by simp; omega)] at hf; cases hf
            rw [e0] at hf ⊢
            simp at hf
            subst hf
            rw [if_neg hv]
            rfl
        · have h2 := a.sum
          rw [List.map_append, List.sum_append]
          simp only [List.map_cons, List.map_nil, List.sum_cons, List.sum_nil]
          omega
  have := key fs.length (Nat.le_refl _)
  rwa [List.take_length] at this

end Go.Proofs.YtngbodmooddjbaaGreat
