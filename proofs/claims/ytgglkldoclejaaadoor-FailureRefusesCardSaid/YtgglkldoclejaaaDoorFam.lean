/-
  Plain mathematics: the nodes of a function are its cofactors; how many nodes a function has; how many nodes building it makes.
-/
import Derived.Test.YtgglkldoclejaaaDoorReach
namespace Go.Proofs.YtgglkldoclejaaaDoor
namespace Mgr

/-- Levels above d as in a, the others as in b. -/
def mix (M : Mgr) (d : Nat) (a b : Nat → Bool) : Nat → Bool := fun v => if M.lev v < d then a v else b v

theorem Reach.mono {M : Mgr} : ∀ {k k' f g : Nat}, k ≤ k' → M.Reach k f g → M.Reach k' f g
  | 0, _, _, _, _, h => h.elim
  | k + 1, 0, _, _, hk, _ => by omega
  | k + 1, k' + 1, f, g, hk, h => by
    obtain ⟨h2, h⟩ := h
    refine ⟨h2, ?_⟩
    rcases h with h | h | h
    · exact .inl h
    · exact .inr (.inl (h.mono (by omega)))
    · exact .inr (.inr (h.mono (by omega)))

theorem Reach.fuel {M : Mgr} (h : M.WF) : ∀ {k f g : Nat}, M.stored f → M.Reach k f g → ∀ k', M.n - M.depth f < k' → M.Reach k' f g
  | 0, _, _, _, hr, _, _ => hr.elim
  | k + 1, f, g, hf, hr, 0, hk => by omega
  | k + 1, f, g, hf, hr, k' + 1, hk => by
    obtain ⟨h2, hr⟩ := hr
    obtain ⟨_, _, sl, sh, _, dl, dh⟩ := node_of h hf h2
    have q1 := depth_le h sl
    have q2 := depth_le h sh
    refine ⟨h2, ?_⟩
    rcases hr with hr | hr | hr
    · exact .inl hr
    · exact .inr (.inl (Reach.fuel h sl hr k' (by omega)))
    · exact .inr (.inr (Reach.fuel h sh hr k' (by omega)))

/-- What is reached from what is reached. -/
theorem Reach.trans {M : Mgr} : ∀ {k k' f g x : Nat}, M.Reach k f g → M.Reach k' g x → M.Reach (k + k') f x
  | 0, _, _, _, _, h, _ => h.elim
  | k + 1, k', f, g, x, h, h' => by
    obtain ⟨h2, h⟩ := h
    rcases h with h | h | h
    · subst h; exact h'.mono (by omega)
    · rw [show k + 1 + k' = (k + k') + 1 by omega]
      exact ⟨h2, .inr (.inl (h.trans h'))⟩
    · rw [show k + 1 + k' = (k + k') + 1 by omega]
      exact ⟨h2, .inr (.inr (h.trans h'))⟩

theorem Reach.spec {M : Mgr} (h : M.WF) : ∀ {k f g : Nat}, M.stored f → M.Reach k f g → M.stored g ∧ 2 ≤ g ∧ M.depth f ≤ M.depth g
  | 0, _, _, _, hr => hr.elim
  | k + 1, f, g, hf, hr => by
    obtain ⟨h2, hr⟩ := hr
    obtain ⟨_, _, sl, sh, _, dl, dh⟩ := node_of h hf h2
    rcases hr with hr | hr | hr
    · subst hr; exact ⟨hf, h2, Nat.le_refl _⟩
    · have := Reach.spec h sl hr; exact ⟨this.1, this.2.1, by omega⟩
    · have := Reach.spec h sh hr; exact ⟨this.1, this.2.1, by omega⟩

/-- A reached node is a cofactor: at its own level. -/
theorem Reach.cof {M : Mgr} (h : M.WF) : ∀ {k f g : Nat}, M.stored f → M.Reach k f g → ∃ a, ∀ b, M.sem g b = M.sem f (M.mix (M.depth g) a b)
  | 0, _, _, _, hr => hr.elim
  | k + 1, f, g, hf, hr => by
    obtain ⟨h2, hr⟩ := hr
    obtain ⟨v0, v1, sl, sh, _, dl, dh⟩ := node_of h hf h2
    have hd : M.depth f = M.lev (M.nd f).1.toNat := by unfold depth; rw [if_neg (by omega)]
    rcases hr with hr | hr | hr
    · subst hr
      refine ⟨fun _ => false, fun b => sem_agree h _ g hf (Nat.le_refl _) _ _ (fun v hv hdv => ?_)⟩
      unfold mix; rw [if_neg (by omega)]
    · obtain ⟨a, ha⟩ := Reach.cof h sl hr
      have hg := Reach.spec h sl hr
      refine ⟨upd a (M.nd f).1.toNat false, fun b => ?_⟩
      rw [ha, sem_lo h hf h2]
      refine sem_agree h _ f hf (Nat.le_refl _) _ _ (fun v hv _ => ?_)
      by_cases e : v = (M.nd f).1.toNat
      · subst e; unfold mix; rw [upd_same, if_pos (by omega), upd_same]
      · rw [upd_other _ _ _ _ e]; unfold mix; rw [upd_other _ _ _ _ e]
    · obtain ⟨a, ha⟩ := Reach.cof h sh hr
      have hg := Reach.spec h sh hr
      refine ⟨upd a (M.nd f).1.toNat true, fun b => ?_⟩
      rw [ha, sem_hi h hf h2]
      refine sem_agree h _ f hf (Nat.le_refl _) _ _ (fun v hv _ => ?_)
      by_cases e : v = (M.nd f).1.toNat
      · subst e; unfold mix; rw [upd_same, if_pos (by omega), upd_same]
      · rw [upd_other _ _ _ _ e]; unfold mix; rw [upd_other _ _ _ _ e]

/-- Each cofactor is a constant or a reached node. -/
theorem cof_ref {M : Mgr} (h : M.WF) (d : Nat) (a : Nat → Bool) : ∀ (k f : Nat), M.stored f → M.n - M.depth f < k → ∃ g, M.stored g ∧ (∀ b, M.sem g b = M.sem f (M.mix d a b)) ∧ (2 ≤ g → M.Reach k f g)
  | 0, _, _, hk => by omega
  | k + 1, f, hf, hk => by
    by_cases h2 : f < 2
    · exact ⟨f, hf, fun b => by rw [sem_const _ _ _ h2, sem_const _ _ _ h2], fun x => by omega⟩
    · obtain ⟨v0, v1, sl, sh, _, dl, dh⟩ := node_of h hf (by omega)
      have hd : M.depth f = M.lev (M.nd f).1.toNat := by unfold depth; rw [if_neg (by omega)]
      have q1 := depth_le h sl
      have q2 := depth_le h sh
      by_cases hlt : M.depth f < d
      · cases hb : a (M.nd f).1.toNat with
        | false =>
          obtain ⟨g, sg, hg, hr⟩ := cof_ref h d a k _ sl (by omega)
          refine ⟨g, sg, fun b => ?_, fun x => ⟨by omega, .inr (.inl (hr x))⟩⟩
          rw [hg, sem_lo h hf (by omega)]
          refine sem_agree h _ f hf (Nat.le_refl _) _ _ (fun v hv _ => ?_)
          by_cases e : v = (M.nd f).1.toNat
          · subst e; rw [upd_same]; unfold mix; rw [if_pos (by omega), hb]
          · rw [upd_other _ _ _ _ e]
        | true =>
          obtain ⟨g, sg, hg, hr⟩ := cof_ref h d a k _ sh (by omega)
          refine ⟨g, sg, fun b => ?_, fun x => ⟨by omega, .inr (.inr (hr x))⟩⟩
          rw [hg, sem_hi h hf (by omega)]
          refine sem_agree h _ f hf (Nat.le_refl _) _ _ (fun v hv _ => ?_)
          by_cases e : v = (M.nd f).1.toNat
          · subst e; rw [upd_same]; unfold mix; rw [if_pos (by omega), hb]
          · rw [upd_other _ _ _ _ e]
      · refine ⟨f, hf, fun b => sem_agree h _ f hf (Nat.le_refl _) _ _ (fun v hv hdv => ?_), fun _ => ⟨by omega, .inl rfl⟩⟩
        unfold mix; rw [if_neg (by omega)]

/-- A function that is no constant. -/
def NonConst (F : (Nat → Bool) → Bool) : Prop := ∃ a b, F a ≠ F b

theorem nonconst_two {M : Mgr} {g : Nat} {F : (Nat → Bool) → Bool} (hs : ∀ b, M.sem g b = F b) (hn : NonConst F) : 2 ≤ g := by
  rcases Nat.lt_or_ge g 2 with h | h
  · obtain ⟨a, b, hab⟩ := hn
    exfalso; apply hab
    rw [← hs, ← hs, sem_const _ _ _ h, sem_const _ _ _ h]
  · exact h

theorem two_nonconst {M : Mgr} (h : M.WF) {g : Nat} (hg : M.stored g) (h2 : 2 ≤ g) : NonConst (M.sem g) := by
  by_cases hn : NonConst (M.sem g)
  · exact hn
  · exfalso
    have hc : ∀ a b, M.sem g a = M.sem g b := fun a b => by
      by_cases e : M.sem g a = M.sem g b
      · exact e
      · exact (hn ⟨a, b, e⟩).elim
    cases hv : M.sem g (fun _ => false) with
    | false =>
      have := canon h hg (.inl (by omega) : M.stored 0) (fun a => by rw [hc a (fun _ => false), hv, sem_zero])
      omega
    | true =>
      have := canon h hg (.inl (by omega) : M.stored 1) (fun a => by rw [hc a (fun _ => false), hv, sem_one])
      omega

/-- The size of a function whose cofactors are listed. -/
theorem size_family {M : Mgr} (h : M.WF) {f : Nat} (hf : M.stored f) (m : Nat) (G : Nat → (Nat → Bool) → Bool)
    (dist : ∀ i j, i < m → j < m → G i = G j → i = j) (non : ∀ i, i < m → NonConst (G i)) (isc : ∀ i, i < m → ∃ d a, ∀ b, G i b = M.sem f (M.mix d a b))
    (all : ∀ d a, NonConst (fun b => M.sem f (M.mix d a b)) → ∃ i, i < m ∧ G i = fun b => M.sem f (M.mix d a b)) : M.size f = m := by
  have ex : ∀ i, ∃ g, i < m → M.stored g ∧ (∀ b, M.sem g b = G i b) ∧ M.Reach (M.n + 1) f g := fun i => by
    by_cases hi : i < m
    · obtain ⟨d, a, hda⟩ := isc i hi
      obtain ⟨g, sg, hg, hr⟩ := cof_ref h d a (M.n + 1) f hf (by omega)
      have hs : ∀ b, M.sem g b = G i b := fun b => by rw [hg, hda]
      exact ⟨g, fun _ => ⟨sg, hs, hr (nonconst_two hs (non i hi))⟩⟩
    · exact ⟨0, fun x => (hi x).elim⟩
  obtain ⟨r, hr⟩ := Classical.axiomOfChoice ex
  have hl : M.size f = ((List.range m).map r).length := by
    refine size_eq h hf ?_ (fun g => ?_)
    · rw [List.nodup_iff_pairwise_ne, List.pairwise_map]
      have hnd : (List.range m).Nodup := List.nodup_range
      rw [List.nodup_iff_pairwise_ne] at hnd
      refine hnd.imp_of_mem (fun {i j} hi hj hne e => hne ?_)
      simp at hi hj
      exact dist i j hi hj (funext fun b => by rw [← (hr i hi).2.1, ← (hr j hj).2.1, e])
    · simp only [List.mem_map, List.mem_range]
      constructor
      · rintro ⟨i, hi, rfl⟩; exact (hr i hi).2.2
      · intro hg
        obtain ⟨a, ha⟩ := Reach.cof h hf hg
        obtain ⟨sg, g2, _⟩ := Reach.spec h hf hg
        have hn : NonConst (fun b => M.sem f (M.mix (M.depth g) a b)) := by
          have := two_nonconst h sg g2
          obtain ⟨x, y, hxy⟩ := this
          exact ⟨x, y, by show M.sem f _ ≠ M.sem f _; rw [← ha, ← ha]; exact hxy⟩
        obtain ⟨i, hi, hG⟩ := all _ a hn
        refine ⟨i, hi, canon h (hr i hi).1 sg (fun b => ?_)⟩
        rw [(hr i hi).2.1, hG, ha]
  simpa using hl

/-- An upper bound: at each level the cofactors are told apart by a state below s. -/
theorem size_states {M : Mgr} (h : M.WF) {f : Nat} (hf : M.stored f) (s : Nat) (st : Nat → (Nat → Bool) → Nat) (hst : ∀ d a, st d a < s)
    (same : ∀ d a a', st d a = st d a' → ∀ b, M.sem f (M.mix d a b) = M.sem f (M.mix d a' b)) : M.size f ≤ M.n * s := by
  obtain ⟨nd, hm, hs⟩ := nodesOf_spec h hf
  -- each node to a number below n * s
  have ex : ∀ g, ∃ c, g ∈ M.nodesOf f → ∃ a, (∀ b, M.sem g b = M.sem f (M.mix (M.depth g) a b)) ∧ c = M.depth g * s + st (M.depth g) a := fun g => by
    by_cases hg : g ∈ M.nodesOf f
    · obtain ⟨a, ha⟩ := Reach.cof h hf ((hm g).1 hg)
      exact ⟨_, fun _ => ⟨a, ha, rfl⟩⟩
    · exact ⟨0, fun x => (hg x).elim⟩
  obtain ⟨c, hc⟩ := Classical.axiomOfChoice ex
  have hnd : ((M.nodesOf f).map c).Nodup := by
    rw [List.nodup_iff_pairwise_ne, List.pairwise_map]
    rw [List.nodup_iff_pairwise_ne] at nd
    refine nd.imp_of_mem (fun {x y} hx hy hne e => hne ?_)
    obtain ⟨a, ha, ca⟩ := hc x hx
    obtain ⟨b, hb, cb⟩ := hc y hy
    rw [ca, cb] at e
    have h1 := hst (M.depth x) a
    have h2 := hst (M.depth y) b
    have hdd : M.depth x = M.depth y := by
      rcases Nat.lt_trichotomy (M.depth x) (M.depth y) with hlt | heq | hgt
      · have : (M.depth x + 1) * s ≤ M.depth y * s := Nat.mul_le_mul_right _ hlt
        rw [Nat.add_mul] at this; omega
      · exact heq
      · have : (M.depth y + 1) * s ≤ M.depth x * s := Nat.mul_le_mul_right _ hgt
        rw [Nat.add_mul] at this; omega
    rw [hdd] at e ha
    exact canon h (hs x hx).1 (hs y hy).1 (fun z => by rw [ha, hb]; exact same _ _ _ (by omega) z)
  have := nodup_length _ (List.range (M.n * s)) hnd (fun x hx => by
    simp only [List.mem_map] at hx
    obtain ⟨g, hg, rfl⟩ := hx
    obtain ⟨a, _, ca⟩ := hc g hg
    have h1 := hst (M.depth g) a
    have h2 := depth_lt h (hs g hg).1 (hs g hg).2
    have : (M.depth g + 1) * s ≤ M.n * s := Nat.mul_le_mul_right _ h2
    rw [Nat.add_mul] at this
    simp; omega)
  simpa [size] using this

/-! ### how many nodes are made -/

theorem Ext.reach {M M' : Mgr} (h : M.WF) (e : Ext M M') : ∀ {k f g : Nat}, M.stored f → M.Reach k f g → M'.Reach k f g
  | 0, _, _, _, hr => hr.elim
  | k + 1, f, g, hf, hr => by
    obtain ⟨h2, hr⟩ := hr
    obtain ⟨_, _, sl, sh, _, dl, dh⟩ := node_of h hf h2
    refine ⟨h2, ?_⟩
    rw [e.nd f h2 hf]
    rcases hr with hr | hr | hr
    · exact .inl hr
    · exact .inr (.inl (e.reach h sl hr))
    · exact .inr (.inr (e.reach h sh hr))

/-- What 'put' returns, if its children differ. -/
theorem put_nd {M : Mgr} {v lo hi : Nat} (h : M.WF) (ne : lo ≠ hi) : (M.put v lo hi).1.nd (M.put v lo hi).2 = ((v : Int), lo, hi) ∧ 2 ≤ (M.put v lo hi).2 ∧
    (∀ g, M.nodes.length ≤ g → g < (M.put v lo hi).1.nodes.length → g = (M.put v lo hi).2) := by
  unfold put
  rw [if_neg ne]
  cases hf : M.find ((v : Int), lo, hi) with
  | some r =>
    obtain ⟨r2, rl, rn⟩ := find_some hf
    exact ⟨rn, r2, fun g h1 h2 => by simp at h2; omega⟩
  | none =>
    cases hg : M.free.getLast? with
    | some f =>
      obtain ⟨f2, fl, fv⟩ := h.fr f (List.mem_of_getLast? hg)
      exact ⟨by simp [nd, fl], f2, fun g h1 h2 => by simp at h2; omega⟩
    | none => exact ⟨by simp [nd], h.two, fun g h1 h2 => by simp at h2 ⊢; omega⟩

/-- What is made is reached from the result. -/
theorem build_new : ∀ (k : Nat) (M : Mgr), M.WF → k ≤ M.n → ∀ F, M.Reads (M.n - k) F → ∀ g, M.nodes.length ≤ g → g < (build k M F).1.nodes.length → (build k M F).1.Reach (k + 1) (build k M F).2 g
  | 0, M, h, _, F, hF => fun g h1 h2 => by simp [build] at h2; omega
  | k + 1, M, h, hk, F, hF => by
    have hlv := h.lo_ (M.n - (k + 1)) (by omega)
    have r1 := Reads.upd h (by omega) hF false
    have s1 := build_spec k M h (by omega) _ r1
    have i1 := build_new k M h (by omega) _ r1
    have hF2 : M.Reads (M.n - k) (fun a => F (upd a (M.ord (M.n - (k + 1))) true)) := Reads.upd h (by omega) hF true
    have r2 : (build k M (fun a => F (upd a (M.ord (M.n - (k + 1))) false))).1.Reads ((build k M (fun a => F (upd a (M.ord (M.n - (k + 1))) false))).1.n - k) (fun a => F (upd a (M.ord (M.n - (k + 1))) true)) := by rw [s1.ext.n]; exact Reads.ext s1.ext hF2
    have s2 := build_spec k (build k M (fun a => F (upd a (M.ord (M.n - (k + 1))) false))).1 s1.wf (by rw [s1.ext.n]; omega) (fun a => F (upd a (M.ord (M.n - (k + 1))) true)) r2
    have i2 := build_new k (build k M (fun a => F (upd a (M.ord (M.n - (k + 1))) false))).1 s1.wf (by rw [s1.ext.n]; omega) (fun a => F (upd a (M.ord (M.n - (k + 1))) true)) r2
    show ∀ g, M.nodes.length ≤ g → g < (Mgr.put _ _ _ _).1.nodes.length → (Mgr.put _ _ _ _).1.Reach (k + 1 + 1) (Mgr.put _ _ _ _).2 g
    generalize hA : build k M (fun a => F (upd a (M.ord (M.n - (k + 1))) false)) = A at *
    generalize hB : build k A.1 (fun a => F (upd a (M.ord (M.n - (k + 1))) true)) = B at *
    have hn2 : B.1.n = M.n := by rw [s2.ext.n, s1.ext.n]
    have hlev2 : ∀ v, B.1.lev v = M.lev v := fun v => by rw [s2.ext.lev, s1.ext.lev]
    have d1 : B.1.depth A.2 = A.1.depth A.2 := s2.ext.depth s1.st
    have q1 := s1.dep
    have q2 := s2.dep
    rw [s1.ext.n] at q2
    have m := put_spec s2.wf (v := M.ord (M.n - (k + 1))) (lo := A.2) (hi := B.2) (by rw [hn2]; exact hlv.1) (s2.ext.stored s1.st) s2.st (by rw [hlev2, hlv.2, d1]; omega) (by rw [hlev2, hlv.2]; omega)
    intro g h1 h2
    have sA : B.1.stored A.2 := s2.ext.stored s1.st
    -- where g was made
    have old : g < B.1.nodes.length → B.1.Reach (k + 1) A.2 g ∨ B.1.Reach (k + 1) B.2 g := fun hg => by
      rcases Nat.lt_or_ge g A.1.nodes.length with hlt | hge
      · exact .inl (s2.ext.reach s1.wf s1.st (i1 g h1 hlt))
      · exact .inr (i2 g hge hg)
    by_cases e : A.2 = B.2
    · have hp : B.1.put (M.ord (M.n - (k + 1))) A.2 B.2 = (B.1, A.2) := by unfold put; rw [if_pos e]
      rw [hp] at h2 ⊢
      rcases old h2 with x | x
      · exact x.mono (by omega)
      · rw [e]; exact x.mono (by omega)
    · obtain ⟨pn, p2, pg⟩ := put_nd (v := M.ord (M.n - (k + 1))) s2.wf e
      refine ⟨p2, ?_⟩
      rw [pn]
      rcases Nat.lt_or_ge g B.1.nodes.length with hlt | hge
      · rcases old hlt with x | x
        · exact .inr (.inl (m.ext.reach s2.wf sA x))
        · exact .inr (.inr (m.ext.reach s2.wf s2.st x))
      · exact .inl (pg g hge h2)

/-- Building makes at most as many nodes as the result has. -/
theorem build_len {k : Nat} {M : Mgr} (h : M.WF) (hk : k ≤ M.n) {F : (Nat → Bool) → Bool} (hF : M.Reads (M.n - k) F) : (build k M F).1.nodes.length ≤ M.nodes.length + (build k M F).1.size (build k M F).2 := by
  have s := build_spec k M h hk F hF
  have hn := build_new k M h hk F hF
  obtain ⟨nd, hm, _⟩ := nodesOf_spec s.wf s.st
  generalize build k M F = B at *
  have hsub : ∀ x, x ∈ (List.range (B.1.nodes.length - M.nodes.length)).map (fun i => M.nodes.length + i) → x ∈ B.1.nodesOf B.2 := fun x hx => by
    simp only [List.mem_map, List.mem_range] at hx
    obtain ⟨i, hi, rfl⟩ := hx
    exact (hm _).2 (Reach.fuel s.wf s.st (hn _ (by omega) (by omega)) _ (by omega))
  have hnd : ((List.range (B.1.nodes.length - M.nodes.length)).map (fun i => M.nodes.length + i)).Nodup := by
    rw [List.nodup_iff_pairwise_ne, List.pairwise_map]
    have hr : (List.range (B.1.nodes.length - M.nodes.length)).Nodup := List.nodup_range
    rw [List.nodup_iff_pairwise_ne] at hr
    exact hr.imp (fun {i j} hne e => hne (by omega))
  have := nodup_length _ _ hnd hsub
  simp only [List.length_map, List.length_range] at this
  unfold size
  omega

/-- A crude bound. -/
theorem build_pow : ∀ (k : Nat) (M : Mgr), M.WF → k ≤ M.n → ∀ F, M.Reads (M.n - k) F → (build k M F).1.nodes.length ≤ M.nodes.length + (2 ^ k - 1)
  | 0, M, h, _, F, hF => by simp [build]
  | k + 1, M, h, hk, F, hF => by
    have hlv := h.lo_ (M.n - (k + 1)) (by omega)
    have r1 := Reads.upd h (by omega) hF false
    have s1 := build_spec k M h (by omega) _ r1
    have i1 := build_pow k M h (by omega) _ r1
    have hF2 : M.Reads (M.n - k) (fun a => F (upd a (M.ord (M.n - (k + 1))) true)) := Reads.upd h (by omega) hF true
    have r2 : (build k M (fun a => F (upd a (M.ord (M.n - (k + 1))) false))).1.Reads ((build k M (fun a => F (upd a (M.ord (M.n - (k + 1))) false))).1.n - k) (fun a => F (upd a (M.ord (M.n - (k + 1))) true)) := by rw [s1.ext.n]; exact Reads.ext s1.ext hF2
    have s2 := build_spec k (build k M (fun a => F (upd a (M.ord (M.n - (k + 1))) false))).1 s1.wf (by rw [s1.ext.n]; omega) (fun a => F (upd a (M.ord (M.n - (k + 1))) true)) r2
    have i2 := build_pow k (build k M (fun a => F (upd a (M.ord (M.n - (k + 1))) false))).1 s1.wf (by rw [s1.ext.n]; omega) (fun a => F (upd a (M.ord (M.n - (k + 1))) true)) r2
    show (Mgr.put _ _ _ _).1.nodes.length ≤ _
    generalize hA : build k M (fun a => F (upd a (M.ord (M.n - (k + 1))) false)) = A at *
    generalize hB : build k A.1 (fun a => F (upd a (M.ord (M.n - (k + 1))) true)) = B at *
    have hn2 : B.1.n = M.n := by rw [s2.ext.n, s1.ext.n]
    have hlev2 : ∀ v, B.1.lev v = M.lev v := fun v => by rw [s2.ext.lev, s1.ext.lev]
    have d1 : B.1.depth A.2 = A.1.depth A.2 := s2.ext.depth s1.st
    have q1 := s1.dep
    have q2 := s2.dep
    rw [s1.ext.n] at q2
    have m := put_spec s2.wf (v := M.ord (M.n - (k + 1))) (lo := A.2) (hi := B.2) (by rw [hn2]; exact hlv.1) (s2.ext.stored s1.st) s2.st (by rw [hlev2, hlv.2, d1]; omega) (by rw [hlev2, hlv.2]; omega)
    have ml := m.len
    have hp : 0 < 2 ^ k := Nat.pow_pos (by omega)
    rw [Nat.pow_succ]
    omega

end Mgr
end Go.Proofs.YtgglkldoclejaaaDoor
