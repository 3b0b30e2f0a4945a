/-
  Changing the order, plain part: the nodes of one manager are taken over by another under other numbers.
-/
import Derived.Test.YtngbodmooddjbaaAr
namespace Go.Proofs.Ytngbodmooddjbaa
namespace Mgr

/-- What is known of the names at the end. K: the nodes that are kept; nu: their names; num: how many numbers there are. -/
structure Names (M N : Mgr) (K : List Nat) (nu : Nat → Option Nat) (num : Nat) : Prop where
  nd : K.Nodup
  st : ∀ g, g ∈ K → N.stored g ∧ 2 ≤ g
  cl : ∀ g, g ∈ K → ((N.nd g).2.1 < 2 ∨ (N.nd g).2.1 ∈ K) ∧ ((N.nd g).2.2 < 2 ∨ (N.nd g).2.2 ∈ K)
  z : nu 0 = some 0
  o : nu 1 = some 1
  at_ : ∀ g, g ∈ K → ∃ x, nu g = some x ∧ x < num
  inj : ∀ g h x, nu g = some x → nu h = some x → g = h
  vis : ∀ f, M.vis f = true → ∃ r, nu r = some f ∧ (r < 2 ∨ r ∈ K) ∧ ∀ a, N.sem r a = M.sem f a
  num : M.shown.length ≤ num

def nmO (nu : Nat → Option Nat) (g : Nat) : Nat := (nu g).getD 0
/-- A node under the new names. -/
def imN (N : Mgr) (nu : Nat → Option Nat) (g : Nat) : Nd := ((N.nd g).1, nmO nu (N.nd g).2.1, nmO nu (N.nd g).2.2)
def setN (N : Mgr) (nu : Nat → Option Nat) (K : List Nat) (l : List Nd) : List Nd := K.foldl (fun l g => l.set (nmO nu g) (imN N nu g)) l
theorem setN_len (N : Mgr) (nu : Nat → Option Nat) : ∀ (K : List Nat) (l : List Nd), (setN N nu K l).length = l.length
  | [], _ => rfl
  | g :: K, l => by
    show (setN N nu K (l.set (nmO nu g) (imN N nu g))).length = _
    rw [setN_len, List.length_set]
theorem setN_miss (N : Mgr) (nu : Nat → Option Nat) (x : Nat) : ∀ (K : List Nat) (l : List Nd), (∀ g, g ∈ K → nmO nu g ≠ x) → (setN N nu K l).getD x (-1, 0, 0) = l.getD x (-1, 0, 0)
  | [], _, _ => rfl
  | g :: K, l, h => by
    show (setN N nu K (l.set (nmO nu g) (imN N nu g))).getD x (-1, 0, 0) = _
    rw [setN_miss N nu x K _ (fun g' h' => h g' (.tail _ h')), List.getD_eq_getElem?_getD, List.getElem?_set, if_neg (h g (.head _)), ← List.getD_eq_getElem?_getD]
theorem setN_hit (N : Mgr) (nu : Nat → Option Nat) (x : Nat) (v : Nd) : ∀ (K : List Nat) (l : List Nd), x < l.length → (∀ g, g ∈ K → nmO nu g = x → imN N nu g = v) → (∃ g, g ∈ K ∧ nmO nu g = x) → (setN N nu K l).getD x (-1, 0, 0) = v
  | [], _, _, _, ⟨g, h, _⟩ => by cases h
  | g :: K, l, hx, h, he => by
    show (setN N nu K (l.set (nmO nu g) (imN N nu g))).getD x (-1, 0, 0) = _
    by_cases ht : ∃ g', g' ∈ K ∧ nmO nu g' = x
    · exact setN_hit N nu x v K _ (by rw [List.length_set]; exact hx) (fun g' h' => h g' (.tail _ h')) ht
    · have hg : nmO nu g = x := by
        obtain ⟨g', h1, h2⟩ := he
        rcases List.mem_cons.1 h1 with rfl | h1
        · exact h2
        · exact (ht ⟨g', h1, h2⟩).elim
      rw [setN_miss N nu x K _ (fun g' h1 h2 => ht ⟨g', h1, h2⟩), List.getD_eq_getElem?_getD, List.getElem?_set, if_pos hg, if_pos (by rw [hg]; exact hx)]
      exact h g (.head _) hg

/-- The unused numbers among the last j, the least one last. -/
def frD (l : List Nd) : Nat → List Nat
  | 0 => []
  | j + 1 => frD l j ++ (if (l.getD (l.length - 1 - j) (-1, 0, 0)).1 = -1 then [l.length - 1 - j] else [])
theorem mem_frD {l : List Nd} {f : Nat} : ∀ j, j < l.length → (f ∈ frD l j ↔ f < l.length ∧ l.length ≤ f + j ∧ (l.getD f (-1, 0, 0)).1 = -1)
  | 0, h => by simp [frD]; omega
  | j + 1, h => by
    simp only [frD]
    rw [List.mem_append, mem_frD j (by omega)]
    constructor
    · rintro (⟨h1, h2, h3⟩ | h1)
      · exact ⟨h1, by omega, h3⟩
      · split at h1
        · rename_i hv
          rw [List.mem_singleton] at h1
          subst h1
          exact ⟨by omega, by omega, hv⟩
        · cases h1
    · rintro ⟨h1, h2, h3⟩
      by_cases e : f = l.length - 1 - j
      · subst e
        exact .inr (by rw [if_pos h3]; exact List.mem_singleton.2 rfl)
      · exact .inl ⟨h1, by omega, h3⟩
theorem frD_nodup {l : List Nd} : ∀ j, j < l.length → (frD l j).Nodup
  | 0, _ => List.nodup_nil
  | j + 1, h => by
    simp only [frD]
    refine List.nodup_append.2 ⟨frD_nodup j (by omega), ?_, fun x hx y hy e => ?_⟩
    · split <;> simp
    · split at hy
      · rw [List.mem_singleton] at hy
        have := (mem_frD j (by omega)).1 hx
        omega
      · cases hy
theorem frD_len {l : List Nd} : ∀ j, (frD l j).length ≤ j
  | 0 => Nat.le_refl _
  | j + 1 => by
    simp only [frD]
    have := frD_len (l := l) j
    rw [List.length_append]
    split <;> simp <;> omega
/-- The unused numbers, the least one last. -/
def freeN (l : List Nd) : List Nat := frD l (l.length - 2)
def adN (N : Mgr) (nu : Nat → Option Nat) (K : List Nat) (num : Nat) : List Nd := setN N nu K (List.replicate num (-1, 0, 0))
/-- The manager that takes over. -/
def adM (M N : Mgr) (K : List Nat) (nu : Nat → Option Nat) (num : Nat) : Mgr :=
  { order := N.order, level := N.level, nodes := adN N nu K num, shown := M.shown ++ List.replicate (num - M.shown.length) false, free := freeN (adN N nu K num) }

section
variable {M N : Mgr} {K : List Nat} {nu : Nat → Option Nat} {num : Nat}
theorem Names.ge (s : Names M N K nu num) {g x : Nat} (hg : g ∈ K) (hx : nu g = some x) : 2 ≤ x := by
  have h2 := (s.st g hg).2
  rcases Nat.lt_or_ge x 2 with h | h
  · have : x = 0 ∨ x = 1 := by omega
    rcases this with rfl | rfl
    · have := s.inj _ _ _ hx s.z; omega
    · have := s.inj _ _ _ hx s.o; omega
  · exact h
theorem Names.nm (s : Names M N K nu num) {g : Nat} (hg : g ∈ K) : nu g = some (nmO nu g) ∧ nmO nu g < num ∧ 2 ≤ nmO nu g := by
  obtain ⟨x, hx, hl⟩ := s.at_ g hg
  have e : nmO nu g = x := by unfold nmO; rw [hx]; rfl
  rw [e]
  exact ⟨hx, hl, s.ge hg hx⟩
theorem nmO_lt (s : Names M N K nu num) {g : Nat} (h : g < 2) : nmO nu g = g := by
  have : g = 0 ∨ g = 1 := by omega
  unfold nmO
  rcases this with rfl | rfl
  · rw [s.z]; rfl
  · rw [s.o]; rfl
theorem Names.in_ (s : Names M N K nu num) {g : Nat} (h : g < 2 ∨ g ∈ K) : nu g = some (nmO nu g) := by
  rcases h with h | h
  · rw [nmO_lt s h]
    have : g = 0 ∨ g = 1 := by omega
    rcases this with rfl | rfl
    · exact s.z
    · exact s.o
  · exact (s.nm h).1
theorem Names.eq (s : Names M N K nu num) {g h : Nat} (hg : g < 2 ∨ g ∈ K) (hh : h < 2 ∨ h ∈ K) (e : nmO nu g = nmO nu h) : g = h := by
  have h1 := s.in_ hg
  have h2 := s.in_ hh
  rw [← e] at h2
  exact s.inj _ _ _ h1 h2
theorem adM_nd (s : Names M N K nu num) {g : Nat} (hg : g ∈ K) : (adM M N K nu num).nd (nmO nu g) = imN N nu g := by
  obtain ⟨_, hl, _⟩ := s.nm hg
  exact setN_hit N nu _ _ K _ (by rw [List.length_replicate]; exact hl) (fun g' h' e => by rw [s.eq (.inr h') (.inr hg) e]) ⟨g, hg, rfl⟩
theorem adM_none {x : Nat} (h : ∀ g, g ∈ K → nmO nu g ≠ x) : (adM M N K nu num).nd x = (-1, 0, 0) := by
  show (setN N nu K _).getD x _ = _
  rw [setN_miss N nu x K _ h, List.getD_eq_getElem?_getD, List.getElem?_replicate]
  split <;> rfl
theorem adM_len : (adM M N K nu num).nodes.length = num := by
  show (setN N nu K _).length = _
  rw [setN_len, List.length_replicate]
theorem adM_hit {x : Nat} (h : ((adM M N K nu num).nd x).1 ≠ -1) : ∃ g, g ∈ K ∧ nmO nu g = x := by
  apply Classical.byContradiction
  intro hn
  exact h (by rw [adM_none (fun g hg e => hn ⟨g, hg, e⟩)])
theorem adM_stored (s : Names M N K nu num) (hN : N.WF) {g : Nat} (hg : g < 2 ∨ g ∈ K) : (adM M N K nu num).stored (nmO nu g) := by
  rcases hg with h | h
  · rw [nmO_lt s h]; exact .inl h
  · obtain ⟨_, hl, h2⟩ := s.nm h
    refine .inr ⟨by rw [adM_len]; exact hl, ?_⟩
    rw [adM_nd s h]
    have := (node_of hN (s.st g h).1 (s.st g h).2).1
    show (N.nd g).1 ≠ -1
    omega
theorem adM_depth (s : Names M N K nu num) {g : Nat} (hg : g < 2 ∨ g ∈ K) : (adM M N K nu num).depth (nmO nu g) = N.depth g := by
  rcases hg with h | h
  · rw [nmO_lt s h]
    unfold depth
    rw [if_pos h, if_pos h]
    rfl
  · obtain ⟨_, hl, h2⟩ := s.nm h
    have h3 := (s.st g h).2
    unfold depth
    rw [if_neg (by omega), if_neg (by omega), adM_nd s h]
    rfl
theorem adM_vis (f : Nat) : (adM M N K nu num).vis f = M.vis f := by
  show (M.shown ++ List.replicate (num - M.shown.length) false).getD f false = M.shown.getD f false
  rw [List.getD_eq_getElem?_getD, List.getD_eq_getElem?_getD]
  by_cases h : f < M.shown.length
  · rw [List.getElem?_append_left h]
  · rw [List.getElem?_append_right (by omega), List.getElem?_replicate, List.getElem?_eq_none (by omega)]
    split <;> rfl
theorem mem_freeN {l : List Nd} (h2 : 2 ≤ l.length) {f : Nat} : f ∈ freeN l ↔ f < l.length ∧ 2 ≤ f ∧ (l.getD f (-1, 0, 0)).1 = -1 := by
  unfold freeN
  rw [mem_frD _ (by omega)]
  constructor
  · rintro ⟨a, b, c⟩; exact ⟨a, by omega, c⟩
  · rintro ⟨a, b, c⟩; exact ⟨a, by omega, c⟩
theorem adM_wf (hM : M.WF) (hN : N.WF) (s : Names M N K nu num) : (adM M N K nu num).WF where
  len := hN.len
  ol := hN.ol
  lo_ := hN.lo_
  two := by
    rw [adM_len]
    have := hM.two
    have := hM.sh
    have := s.num
    omega
  nd0 := adM_none (fun g hg e => by have := (s.nm hg).2.2; omega)
  nd1 := adM_none (fun g hg e => by have := (s.nm hg).2.2; omega)
  sh := by
    rw [adM_len]
    show (M.shown ++ List.replicate (num - M.shown.length) false).length = num
    rw [List.length_append, List.length_replicate]
    have := s.num
    omega
  sh0 := by rw [adM_vis]; exact hM.sh0
  sh1 := by rw [adM_vis]; exact hM.sh1
  shst := fun f hf => by
    rw [adM_vis] at hf
    obtain ⟨r, hr, hk, _⟩ := s.vis f hf
    have e : nmO nu r = f := by unfold nmO; rw [hr]; rfl
    rw [← e]
    exact adM_stored s hN hk
  node := fun f h2 hl hv => by
    obtain ⟨g, hg, rfl⟩ := adM_hit hv
    obtain ⟨v0, v1, sl, sh, ne, dl, dh⟩ := node_of hN (s.st g hg).1 (s.st g hg).2
    obtain ⟨cl, ch⟩ := s.cl g hg
    have hd : N.depth g = N.lev (N.nd g).1.toNat := by unfold depth; rw [if_neg (by have := (s.st g hg).2; omega)]
    rw [adM_nd s hg]
    refine ⟨v0, v1, adM_stored s hN cl, adM_stored s hN ch, fun e => ne (s.eq cl ch e), ?_, ?_⟩
    · show N.lev (N.nd g).1.toNat < (adM M N K nu num).depth (nmO nu (N.nd g).2.1)
      rw [adM_depth s cl]; omega
    · show N.lev (N.nd g).1.toNat < (adM M N K nu num).depth (nmO nu (N.nd g).2.2)
      rw [adM_depth s ch]; omega
  inj := fun f f' h2 h2' hl hl' e hv => by
    have hv' := hv
    rw [e] at hv'
    obtain ⟨g, hg, rfl⟩ := adM_hit hv
    obtain ⟨g', hg', rfl⟩ := adM_hit hv'
    rw [adM_nd s hg, adM_nd s hg'] at e
    unfold imN at e
    injection e with e1 e2
    injection e2 with e2 e3
    have hc := s.cl g hg
    have hc' := s.cl g' hg'
    have q2 := s.eq hc.1 hc'.1 e2
    have q3 := s.eq hc.2 hc'.2 e3
    have hsg := (s.st g hg)
    have hsg' := (s.st g' hg')
    have : g = g' := hN.inj g g' hsg.2 hsg'.2 (hsg.1.resolve_left (by omega)).1 (hsg'.1.resolve_left (by omega)).1 (Prod.ext e1 (Prod.ext q2 q3)) (hsg.1.resolve_left (by omega)).2
    rw [this]
  fr := fun f hf => by
    have ge2 : 2 ≤ (adN N nu K num).length := by
      rw [show (adN N nu K num).length = num from adM_len (M := M)]
      have := hM.two
      have := hM.sh
      have := s.num
      omega
    obtain ⟨h1, h2, h3⟩ := (mem_freeN ge2).1 hf
    exact ⟨h2, h1, h3⟩
  fnd := by
    have ge2 : 2 ≤ (adN N nu K num).length := by
      rw [show (adN N nu K num).length = num from adM_len (M := M)]
      have := hM.two
      have := hM.sh
      have := s.num
      omega
    exact frD_nodup _ (by omega)
theorem adM_sem (hM : M.WF) (hN : N.WF) (s : Names M N K nu num) (a : Nat → Bool) : ∀ (k g : Nat), (g < 2 ∨ g ∈ K) → N.n - N.depth g ≤ k → (adM M N K nu num).sem (nmO nu g) a = N.sem g a := by
  intro k
  induction k with
  | zero =>
    intro g hg hk
    by_cases h2 : g < 2
    · rw [nmO_lt s h2, sem_const _ _ _ h2, sem_const _ _ _ h2]
    · have hk' := hg.resolve_left h2
      have := depth_lt hN (s.st g hk').1 (by omega)
      omega
  | succ k ih =>
    intro g hg hk
    by_cases h2 : g < 2
    · rw [nmO_lt s h2, sem_const _ _ _ h2, sem_const _ _ _ h2]
    · have hk' := hg.resolve_left h2
      obtain ⟨v0, v1, sl, sh, ne, dl, dh⟩ := node_of hN (s.st g hk').1 (s.st g hk').2
      have d1 := depth_le hN sl
      have d2 := depth_le hN sh
      obtain ⟨cl, ch⟩ := s.cl g hk'
      rw [sem_node hN (s.st g hk').1 (s.st g hk').2, sem_node (adM_wf hM hN s) (adM_stored s hN hg) (s.nm hk').2.2, adM_nd s hk']
      show (if a (N.nd g).1.toNat = true then (adM M N K nu num).sem (nmO nu (N.nd g).2.2) a else (adM M N K nu num).sem (nmO nu (N.nd g).2.1) a) = _
      rw [ih _ cl (by omega), ih _ ch (by omega)]
/-- What was visible is visible and denotes what it did. -/
theorem adM_old (hM : M.WF) (hN : N.WF) (s : Names M N K nu num) {f : Nat} (hf : M.vis f = true) (a : Nat → Bool) : (adM M N K nu num).sem f a = M.sem f a := by
  obtain ⟨r, hr, hk, hs⟩ := s.vis f hf
  have e : nmO nu r = f := by unfold nmO; rw [hr]; rfl
  rw [← hs, ← adM_sem hM hN s a _ r hk (Nat.le_refl _), e]
end
end Mgr

end Go.Proofs.Ytngbodmooddjbaa
