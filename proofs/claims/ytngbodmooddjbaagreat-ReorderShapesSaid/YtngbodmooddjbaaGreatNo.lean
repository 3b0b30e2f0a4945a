/-
  Plain: an empty manager with a given order.
-/
import Derived.Test.YtngbodmooddjbaaGreatQn
import Derived.Test.YtngbodmooddjbaaGreatSaveP
namespace Go.Proofs.YtngbodmooddjbaaGreat

def mxS (S a b : Nat → Bool) : Nat → Bool := fun v => if S v then a v else b v
theorem mix_mxS (M : Mgr) (d : Nat) (a b : Nat → Bool) : M.mix d a b = mxS (fun v => decide (M.lev v < d)) a b := by
  funext v
  unfold Mgr.mix mxS
  by_cases h : M.lev v < d <;> simp [h]

/-- G is F with some variables fixed. -/
def Rst (F G : Bfn) : Prop := ∃ S a : Nat → Bool, G = fun b => F (mxS S a b)
theorem Rst.self (F : Bfn) : Rst F F := ⟨fun _ => false, fun _ => false, funext fun b => congrArg F (funext fun v => by simp [mxS])⟩
theorem Rst.trans {F G H : Bfn} (h : Rst F G) (h' : Rst G H) : Rst F H := by
  obtain ⟨S, a, rfl⟩ := h
  obtain ⟨T, c, rfl⟩ := h'
  refine ⟨fun v => S v || T v, mxS S a c, funext fun b => congrArg F (funext fun v => ?_)⟩
  unfold mxS
  cases hs : S v <;> cases ht : T v <;> simp [hs, ht]
theorem Rst.upd (F : Bfn) (v : Nat) (x : Bool) : Rst F (fun a => F (Mgr.upd a v x)) :=
  ⟨fun u => decide (u = v), fun _ => x, funext fun b => congrArg F (funext fun u => by unfold mxS Mgr.upd; by_cases e : u = v <;> simp [e])⟩
theorem Rst.cof {M : Mgr} {F G : Bfn} (h : M.Cof F G) : Rst F G := by
  obtain ⟨d, a, rfl⟩ := h
  exact ⟨fun v => decide (M.lev v < d), a, funext fun b => by rw [mix_mxS]⟩

def tri (S a : Nat → Bool) : Nat → Nat
  | 0 => 0
  | n + 1 => tri S a n * 3 + (if S n then (if a n then 2 else 1) else 0)
theorem tri_lt (S a : Nat → Bool) : ∀ n, tri S a n < 3 ^ n
  | 0 => by simp [tri]
  | n + 1 => by
    have ih := tri_lt S a n
    have e : 3 ^ (n + 1) = 3 ^ n * 3 := Nat.pow_succ 3 n
    simp only [tri]
    split
    · split <;> omega
    · omega
theorem tri_inj (S a S' a' : Nat → Bool) : ∀ n, tri S a n = tri S' a' n → ∀ v, v < n → S v = S' v ∧ (S v = true → a v = a' v)
  | 0, _, v, hv => by omega
  | n + 1, e, v, hv => by
    simp only [tri] at e
    have key : tri S a n = tri S' a' n ∧ S n = S' n ∧ (S n = true → a n = a' n) := by
      cases h1 : S n <;> cases h2 : S' n <;> cases h3 : a n <;> cases h4 : a' n <;> simp [h1, h2, h3, h4] at e ⊢ <;> omega
    by_cases hn : v = n
    · subst hn; exact key.2
    · exact tri_inj S a S' a' n key.1 v (by omega)
theorem Listed.rst {n : Nat} {F : Bfn} (hF : Rd 0 n F) : Listed (Rst F) (3 ^ n) := by
  refine Listed.code (A := (Nat → Bool) × (Nat → Bool)) (P := fun _ => True) (fun x b => F (mxS x.1 x.2 b)) (fun x => tri x.1 x.2 n) (fun x _ => tri_lt _ _ n) (fun x y _ _ e => funext fun b => hF _ _ fun v _ hv => ?_) (fun G hG => ?_)
  · obtain ⟨h1, h2⟩ := tri_inj _ _ _ _ n e v hv
    unfold mxS
    rw [← h1]
    cases hs : x.1 v
    · rfl
    · rw [if_pos rfl, if_pos rfl]; exact h2 hs
  · obtain ⟨S, a, e⟩ := hG
    exact ⟨(S, a), trivial, e.symm⟩

/-- What is stored while the functions of l are made in another order. -/
def ArF (n : Nat) (l : List Bfn) (G : Bfn) : Prop := (∃ F, F ∈ l ∧ Rst F G) ∨ ∃ v, v < n ∧ G = fun a => a v
theorem Listed.rsts {n : Nat} : ∀ (l : List Bfn), (∀ F, F ∈ l → Rd 0 n F) → Listed (fun G => ∃ F, F ∈ l ∧ Rst F G) (l.length * 3 ^ n)
  | [], _ => ⟨fun _ _ => false, fun _ ⟨_, h, _⟩ => by cases h⟩
  | F :: l, h => by
    refine ((Listed.rst (h F (.head _))).or (Listed.rsts l (fun G hG => h G (.tail _ hG)))).mono (fun _ hG => ?_) (by rw [List.length_cons, Nat.succ_mul]; omega)
    obtain ⟨F', h1, h2⟩ := hG
    rcases List.mem_cons.1 h1 with rfl | h1
    · exact .inl h2
    · exact .inr ⟨F', h1, h2⟩
theorem Listed.arF {n : Nat} (l : List Bfn) (h : ∀ F, F ∈ l → Rd 0 n F) : Listed (ArF n l) (l.length * 3 ^ n + n) :=
  (Listed.rsts l h).or ⟨fun i a => a i, fun _ ⟨v, hv, e⟩ => ⟨v, hv, e.symm⟩⟩

namespace Mgr
theorem sem_rd {M : Mgr} (h : M.WF) {f : Nat} (hf : M.stored f) : Rd 0 M.n (M.sem f) := fun a b hab => sem_agree h _ f hf (Nat.le_refl _) a b (fun v hv _ => hab v (Nat.zero_le _) hv)

/-- The map 'image'. -/
def ImS (M N : Mgr) (K : Int → Option Nat) : Prop := K 0 = some 0 ∧ K 1 = some 1 ∧ ∀ x r, K x = some r → ∃ f : Nat, x = (f : Int) ∧ M.stored f ∧ N.stored r ∧ ∀ a, N.sem r a = M.sem f a
theorem ImS.ext {M N N' : Mgr} {K : Int → Option Nat} (h : N.WF) (s : ImS M N K) (e : Ext N N') : ImS M N' K := ⟨s.1, s.2.1, fun x r hr => by
  obtain ⟨f, hx, sf, sr, hs⟩ := s.2.2 x r hr
  exact ⟨f, hx, sf, e.stored sr, fun a => by rw [e.sem h sr]; exact hs a⟩⟩
/-- 'join' of two functions that are cofactors of one that is made. -/
theorem join_arF {N : Mgr} {n : Nat} {l : List Bfn} (h : N.WF) (hn : N.n = n) {v lo hi : Nat} {F : Bfn} (hv : v < n) (hl : N.stored lo) (hh : N.stored hi) (el : ∀ a, N.sem lo a = F (upd a v false)) (eh : ∀ a, N.sem hi a = F (upd a v true)) (hF : ∃ G, G ∈ l ∧ Rst G F) :
    Adds N (N.joinM v lo hi).1 (ArF n l) ∧ (N.joinM v lo hi).1.stored (N.joinM v lo hi).2 ∧ ∀ a, (N.joinM v lo hi).1.sem (N.joinM v lo hi).2 a = F a := by
  subst hn
  have sp := join_spec h hv hl hh
  have e : joinF N v lo hi = F := funext fun a => by
    unfold joinF
    rw [el, eh]
    cases hx : a v
    · rw [if_neg (by simp), ← hx, upd_self]
    · rw [if_pos rfl, ← hx, upd_self]
  refine ⟨(join_adds h hv hl hh).mono (fun G hG => ?_), sp.st, fun a => by rw [sp.sem, e]⟩
  rcases hG with hG | hG
  · rw [e] at hG
    obtain ⟨G0, h0, h1⟩ := hF
    exact .inl ⟨G0, h0, h1.trans (Rst.cof hG)⟩
  · exact .inr ⟨v, hv, hG⟩
end Mgr

end Go.Proofs.YtngbodmooddjbaaGreat

namespace Go.Proofs.YtngbodmooddjbaaGreat
namespace Mgr

/-- What is known of the names at the end. K: the nodes that are kept; nu: their names; num: how many numbers there are. -/
structure Names (M N : Mgr) (K : List Nat) (nu : Nat → Option Nat) (num : Nat) : Prop where
  nd : K.Nodup
  st : ∀ g, g ∈ K → N.stored g ∧ 2 ≤ g
  cl : ∀ g, g ∈ K → ((N.nd g).2.1 < 2 ∨ (N.nd g).2.1 ∈ K) ∧ ((N.nd g).2.2 < 2 ∨ (N.nd g).2.2 ∈ K)
  z : nu 0 = some 0
  o : nu 1 = some 1
  at_ : ∀ g, g ∈ K → ∃ x, nu g = some x ∧ x < num
  inj : ∀ g h x, nu g = some x → nu h = some x → g = h
  vis : ∀ f, M.vis f = true → ∃ r, nu r = some f ∧ (r < 2 ∨ r ∈ K) ∧ ∀ a, N.sem r a = M.sem f a
  num : M.shown.length ≤ num

def nmO (nu : Nat → Option Nat) (g : Nat) : Nat := (nu g).getD 0
/-- A node under the new names. -/
def imN (N : Mgr) (nu : Nat → Option Nat) (g : Nat) : Nd := ((N.nd g).1, nmO nu (N.nd g).2.1, nmO nu (N.nd g).2.2)
def setN (N : Mgr) (nu : Nat → Option Nat) (K : List Nat) (l : List Nd) : List Nd := K.foldl (fun l g => l.set (nmO nu g) (imN N nu g)) l
theorem setN_len (N : Mgr) (nu : Nat → Option Nat) : ∀ (K : List Nat) (l : List Nd), (setN N nu K l).length = l.length
  | [], _ => rfl
  | g :: K, l => by
    show (setN N nu K (l.set (nmO nu g) (imN N nu g))).length = _
    rw [setN_len, List.length_set]
theorem setN_miss (N : Mgr) (nu : Nat → Option Nat) (x : Nat) : ∀ (K : List Nat) (l : List Nd), (∀ g, g ∈ K → nmO nu g ≠ x) → (setN N nu K l).getD x (-1, 0, 0) = l.getD x (-1, 0, 0)
  | [], _, _ => rfl
  | g :: K, l, h => by
    show (setN N nu K (l.set (nmO nu g) (imN N nu g))).getD x (-1, 0, 0) = _
    rw [setN_miss N nu x K _ (fun g' h' => h g' (.tail _ h')), List.getD_eq_getElem?_getD, List.getElem?_set, if_neg (h g (.head _)), ← List.getD_eq_getElem?_getD]
theorem setN_hit (N : Mgr) (nu : Nat → Option Nat) (x : Nat) (v : Nd) : ∀ (K : List Nat) (l : List Nd), x < l.length → (∀ g, g ∈ K → nmO nu g = x → imN N nu g = v) → (∃ g, g ∈ K ∧ nmO nu g = x) → (setN N nu K l).getD x (-1, 0, 0) = v
  | [], _, _, _, ⟨g, h, _⟩ => by cases h
  | g :: K, l, hx, h, he => by
    show (setN N nu K (l.set (nmO nu g) (imN N nu g))).getD x (-1, 0, 0) = _
    by_cases ht : ∃ g', g' ∈ K ∧ nmO nu g' = x
    · exact setN_hit N nu x v K _ (by rw [List.length_set]; exact hx) (fun g' h' => h g' (.tail _ h')) ht
    · have hg : nmO nu g = x := by
        obtain ⟨g', h1, h2⟩ := he
        rcases List.mem_cons.1 h1 with rfl | h1
        · exact h2
        · exact (ht ⟨g', h1, h2⟩).elim
      rw [setN_miss N nu x K _ (fun g' h1 h2 => ht ⟨g', h1, h2⟩), List.getD_eq_getElem?_getD, List.getElem?_set, if_pos hg, if_pos (by rw [hg]; exact hx)]
      exact h g (.head _) hg

/-- The unused numbers among the last j, the least one last. -/
def frD (l : List Nd) : Nat → List Nat
  | 0 => []
  | j + 1 => frD l j ++ (if (l.getD (l.length - 1 - j) (-1, 0, 0)).1 = -1 then [l.length - 1 - j] else [])
theorem mem_frD {l : List Nd} {f : Nat} : ∀ j, j < l.length → (f ∈ frD l j ↔ f < l.length ∧ l.length ≤ f + j ∧ (l.getD f (-1, 0, 0)).1 = -1)
  | 0, h => by simp [frD]; omega
  | j + 1, h => by
    simp only [frD]
    rw [List.mem_append, mem_frD j (by omega)]
    constructor
    · rintro (⟨h1, h2, h3⟩ | h1)
      · exact ⟨h1, by omega, h3⟩
      · split at h1
        · rename_i hv
          rw [List.mem_singleton] at h1
          subst h1
          exact ⟨by omega, by omega, hv⟩
        · cases h1
    · rintro ⟨h1, h2, h3⟩
      by_cases e : f = l.length - 1 - j
      · subst e
        exact .inr (by rw [if_pos h3]; exact List.mem_singleton.2 rfl)
      · exact .inl ⟨h1, by omega, h3⟩
theorem frD_nodup {l : List Nd} : ∀ j, j < l.length → (frD l j).Nodup
  | 0, _ => List.nodup_nil
  | j + 1, h => by
    simp only [frD]
    refine List.nodup_append.2 ⟨frD_nodup j (by omega), ?_, fun x hx y hy e => ?_⟩
    · split <;> simp
    · split at hy
      · rw [List.mem_singleton] at hy
        have := (mem_frD j (by omega)).1 hx
        omega
      · cases hy
theorem frD_len {l : List Nd} : ∀ j, (frD l j).length ≤ j
  | 0 => Nat.le_refl _
  | j + 1 => by
    simp only [frD]
    have := frD_len (l := l) j
    rw [List.length_append]
    split <;> simp <;> omega
/-- The unused numbers, the least one last. -/
def freeN (l : List Nd) : List Nat := frD l (l.length - 2)
def adN (N : Mgr) (nu : Nat → Option Nat) (K : List Nat) (num : Nat) : List Nd := setN N nu K (List.replicate num (-1, 0, 0))
/-- The manager that takes over. -/
def adM (M N : Mgr) (K : List Nat) (nu : Nat → Option Nat) (num : Nat) : Mgr :=
  { order := N.order, level := N.level, nodes := adN N nu K num, shown := M.shown ++ List.replicate (num - M.shown.length) false, free := freeN (adN N nu K num) }

section
variable {M N : Mgr} {K : List Nat} {nu : Nat → Option Nat} {num : Nat}
theorem Names.ge (s : Names M N K nu num) {g x : Nat} (hg : g ∈ K) (hx : nu g = some x) : 2 ≤ x := by
  have h2 := (s.st g hg).2
  rcases Nat.lt_or_ge x 2 with h | h
  · have : x = 0 ∨ x = 1 := by omega
    rcases this with rfl | rfl
    · have := s.inj _ _ _ hx s.z; omega
    · have := s.inj _ _ _ hx s.o; omega
  · exact h
theorem Names.nm (s : Names M N K nu num) {g : Nat} (hg : g ∈ K) : nu g = some (nmO nu g) ∧ nmO nu g < num ∧ 2 ≤ nmO nu g := by
  obtain ⟨x, hx, hl⟩ := s.at_ g hg
  have e : nmO nu g = x := by unfold nmO; rw [hx]; rfl
  rw [e]
  exact ⟨hx, hl, s.ge hg hx⟩
theorem nmO_lt (s : Names M N K nu num) {g : Nat} (h : g < 2) : nmO nu g = g := by
  have : g = 0 ∨ g = 1 := by omega
  unfold nmO
  rcases this with rfl | rfl
  · rw [s.z]; rfl
  · rw [s.o]; rfl
theorem Names.in_ (s : Names M N K nu num) {g : Nat} (h : g < 2 ∨ g ∈ K) : nu g = some (nmO nu g) := by
  rcases h with h | h
  · rw [nmO_lt s h]
    have : g = 0 ∨ g = 1 := by omega
    rcases this with rfl | rfl
    · exact s.z
    · exact s.o
  · exact (s.nm h).1
theorem Names.eq (s : Names M N K nu num) {g h : Nat} (hg : g < 2 ∨ g ∈ K) (hh : h < 2 ∨ h ∈ K) (e : nmO nu g = nmO nu h) : g = h := by
  have h1 := s.in_ hg
  have h2 := s.in_ hh
  rw [← e] at h2
  exact s.inj _ _ _ h1 h2
theorem adM_nd (s : Names M N K nu num) {g : Nat} (hg : g ∈ K) : (adM M N K nu num).nd (nmO nu g) = imN N nu g := by
  obtain ⟨_, hl, _⟩ := s.nm hg
  exact setN_hit N nu _ _ K _ (by rw [List.length_replicate]; exact hl) (fun g' h' e => by rw [s.eq (.inr h') (.inr hg) e]) ⟨g, hg, rfl⟩
theorem adM_none {x : Nat} (h : ∀ g, g ∈ K → nmO nu g ≠ x) : (adM M N K nu num).nd x = (-1, 0, 0) := by
  show (setN N nu K _).getD x _ = _
  rw [setN_miss N nu x K _ h, List.getD_eq_getElem?_getD, List.getElem?_replicate]
  split <;> rfl
theorem adM_len : (adM M N K nu num).nodes.length = num := by
  show (setN N nu K _).length = _
  rw [setN_len, List.length_replicate]
theorem adM_hit {x : Nat} (h : ((adM M N K nu num).nd x).1 ≠ -1) : ∃ g, g ∈ K ∧ nmO nu g = x := by
  apply Classical.byContradiction
  intro hn
  exact h (by rw [adM_none (fun g hg e => hn ⟨g, hg, e⟩)])
theorem adM_stored (s : Names M N K nu num) (hN : N.WF) {g : Nat} (hg : g < 2 ∨ g ∈ K) : (adM M N K nu num).stored (nmO nu g) := by
  rcases hg with h | h
  · rw [nmO_lt s h]; exact .inl h
  · obtain ⟨_, hl, h2⟩ := s.nm h
    refine .inr ⟨by rw [adM_len]; exact hl, ?_⟩
    rw [adM_nd s h]
    have := (node_of hN (s.st g h).1 (s.st g h).2).1
    show (N.nd g).1 ≠ -1
    omega
theorem adM_depth (s : Names M N K nu num) {g : Nat} (hg : g < 2 ∨ g ∈ K) : (adM M N K nu num).depth (nmO nu g) = N.depth g := by
  rcases hg with h | h
  · rw [nmO_lt s h]
    unfold depth
    rw [if_pos h, if_pos h]
    rfl
  · obtain ⟨_, hl, h2⟩ := s.nm h
    have h3 := (s.st g h).2
    unfold depth
    rw [if_neg (by omega), if_neg (by omega), adM_nd s h]
    rfl
theorem adM_vis (f : Nat) : (adM M N K nu num).vis f = M.vis f := by
  show (M.shown ++ List.replicate (num - M.shown.length) false).getD f false = M.shown.getD f false
  rw [List.getD_eq_getElem?_getD, List.getD_eq_getElem?_getD]
  by_cases h : f < M.shown.length
  · rw [List.getElem?_append_left h]
  · rw [List.getElem?_append_right (by omega), List.getElem?_replicate, List.getElem?_eq_none (by omega)]
    split <;> rfl
theorem mem_freeN {l : List Nd} (h2 : 2 ≤ l.length) {f : Nat} : f ∈ freeN l ↔ f < l.length ∧ 2 ≤ f ∧ (l.getD f (-1, 0, 0)).1 = -1 := by
  unfold freeN
  rw [mem_frD _ (by omega)]
  constructor
  · rintro ⟨a, b, c⟩; exact ⟨a, by omega, c⟩
  · rintro ⟨a, b, c⟩; exact ⟨a, by omega, c⟩
theorem adM_wf (hM : M.WF) (hN : N.WF) (s : Names M N K nu num) : (adM M N K nu num).WF where
  len := hN.len
  ol := hN.ol
  lo_ := hN.lo_
  two := by
    rw [adM_len]
    have := hM.two
    have := hM.sh
    have := s.num
    omega
  nd0 := adM_none (fun g hg e => by have := (s.nm hg).2.2; omega)
  nd1 := adM_none (fun g hg e => by have := (s.nm hg).2.2; omega)
  sh := by
    rw [adM_len]
    show (M.shown ++ List.replicate (num - M.shown.length) false).length = num
    rw [List.length_append, List.length_replicate]
    have := s.num
    omega
  sh0 := by rw [adM_vis]; exact hM.sh0
  sh1 := by rw [adM_vis]; exact hM.sh1
  shst := fun f hf => by
    rw [adM_vis] at hf
    obtain ⟨r, hr, hk, _⟩ := s.vis f hf
    have e : nmO nu r = f := by unfold nmO; rw [hr]; rfl
    rw [← e]
    exact adM_stored s hN hk
  node := fun f h2 hl hv => by
    obtain ⟨g, hg, rfl⟩ := adM_hit hv
    obtain ⟨v0, v1, sl, sh, ne, dl, dh⟩ := node_of hN (s.st g hg).1 (s.st g hg).2
    obtain ⟨cl, ch⟩ := s.cl g hg
    have hd : N.depth g = N.lev (N.nd g).1.toNat := by unfold depth; rw [if_neg (by have := (s.st g hg).2; omega)]
    rw [adM_nd s hg]
    refine ⟨v0, v1, adM_stored s hN cl, adM_stored s hN ch, fun e => ne (s.eq cl ch e), ?_, ?_⟩
    · show N.lev (N.nd g).1.toNat < (adM M N K nu num).depth (nmO nu (N.nd g).2.1)
      rw [adM_depth s cl]; omega
    · show N.lev (N.nd g).1.toNat < (adM M N K nu num).depth (nmO nu (N.nd g).2.2)
      rw [adM_depth s ch]; omega
  inj := fun f f' h2 h2' hl hl' e hv => by
    have hv' := hv
    rw [e] at hv'
    obtain ⟨g, hg, rfl⟩ := adM_hit hv
    obtain ⟨g', hg', rfl⟩ := adM_hit hv'
    rw [adM_nd s hg, adM_nd s hg'] at e
    unfold imN at e
    injection e with e1 e2
    injection e2 with e2 e3
    have hc := s.cl g hg
    have hc' := s.cl g' hg'
    have q2 := s.eq hc.1 hc'.1 e2
    have q3 := s.eq hc.2 hc'.2 e3
    have hsg := (s.st g hg)
    have hsg' := (s.st g' hg')
    have : g = g' := hN.inj g g' hsg.2 hsg'.2 (hsg.1.resolve_left (by omega)).1 (hsg'.1.resolve_left (by omega)).1 (Prod.ext e1 (Prod.ext q2 q3)) (hsg.1.resolve_left (by omega)).2
    rw [this]
  fr := fun f hf => by
    have ge2 : 2 ≤ (adN N nu K num).length := by
      rw [show (adN N nu K num).length = num from adM_len (M := M)]
      have := hM.two
      have := hM.sh
      have := s.num
      omega
    obtain ⟨h1, h2, h3⟩ := (mem_freeN ge2).1 hf
    exact ⟨h2, h1, h3⟩
  fnd := by
    have ge2 : 2 ≤ (adN N nu K num).length := by
      rw [show (adN N nu K num).length = num from adM_len (M := M)]
      have := hM.two
      have := hM.sh
      have := s.num
      omega
    exact frD_nodup _ (by omega)
theorem adM_sem (hM : M.WF) (hN : N.WF) (s : Names M N K nu num) (a : Nat → Bool) : ∀ (k g : Nat), (g < 2 ∨ g ∈ K) → N.n - N.depth g ≤ k → (adM M N K nu num).sem (nmO nu g) a = N.sem g a := by
  intro k
  induction k with
  | zero =>
    intro g hg hk
    by_cases h2 : g < 2
    · rw [nmO_lt s h2, sem_const _ _ _ h2, sem_const _ _ _ h2]
    · have hk' := hg.resolve_left h2
      have := depth_lt hN (s.st g hk').1 (by omega)
      omega
  | succ k ih =>
    intro g hg hk
    by_cases h2 : g < 2
    · rw [nmO_lt s h2, sem_const _ _ _ h2, sem_const _ _ _ h2]
    · have hk' := hg.resolve_left h2
      obtain ⟨v0, v1, sl, sh, ne, dl, dh⟩ := node_of hN (s.st g hk').1 (s.st g hk').2
      have d1 := depth_le hN sl
      have d2 := depth_le hN sh
      obtain ⟨cl, ch⟩ := s.cl g hk'
      rw [sem_node hN (s.st g hk').1 (s.st g hk').2, sem_node (adM_wf hM hN s) (adM_stored s hN hg) (s.nm hk').2.2, adM_nd s hk']
      show (if a (N.nd g).1.toNat = true then (adM M N K nu num).sem (nmO nu (N.nd g).2.2) a else (adM M N K nu num).sem (nmO nu (N.nd g).2.1) a) = _
      rw [ih _ cl (by omega), ih _ ch (by omega)]
/-- What was visible is visible and denotes what it did. -/
theorem adM_old (hM : M.WF) (hN : N.WF) (s : Names M N K nu num) {f : Nat} (hf : M.vis f = true) (a : Nat → Bool) : (adM M N K nu num).sem f a = M.sem f a := by
  obtain ⟨r, hr, hk, hs⟩ := s.vis f hf
  have e : nmO nu r = f := by unfold nmO; rw [hr]; rfl
  rw [← hs, ← adM_sem hM hN s a _ r hk (Nat.le_refl _), e]
end
end Mgr

end Go.Proofs.YtngbodmooddjbaaGreat

namespace Go.Proofs.YtngbodmooddjbaaGreat

/-- A list of all numbers below its length. -/
def PermL (l : List Nat) : Prop := l.Nodup ∧ ∀ v, v ∈ l → v < l.length
theorem PermL.has {l : List Nat} (h : PermL l) {v : Nat} (hv : v < l.length) : v ∈ l := by
  apply Classical.byContradiction
  intro hn
  have h1 : (v :: l).Nodup := List.nodup_cons.2 ⟨hn, h.1⟩
  have := Mgr.nodup_length (v :: l) (List.range l.length) h1 (fun x hx => by
    rw [List.mem_range]
    rcases List.mem_cons.1 hx with rfl | hx
    · exact hv
    · exact h.2 x hx)
  rw [List.length_cons, List.length_range] at this
  omega
theorem PermL.lt {l : List Nat} (h : PermL l) {i : Nat} (hi : i < l.length) : l.getD i 0 < l.length := h.2 _ (by rw [List.getD_eq_getElem?_getD, List.getElem?_eq_getElem hi]; exact List.getElem_mem hi)
theorem PermL.inj {l : List Nat} (h : PermL l) {i j : Nat} (hi : i < l.length) (hj : j < l.length) (e : l.getD i 0 = l.getD j 0) : i = j := by
  rw [List.getD_eq_getElem?_getD, List.getD_eq_getElem?_getD, List.getElem?_eq_getElem hi, List.getElem?_eq_getElem hj] at e
  exact nodup_inj h.1 (g := l[i]) (List.getElem?_eq_getElem hi) (by rw [List.getElem?_eq_getElem hj]; exact congrArg some e.symm)
/-- The table of the levels while it is made. -/
def lvO (l : List Nat) : Nat → List Nat
  | 0 => List.range l.length
  | k + 1 => (lvO l k).set (l.getD k 0) k
theorem lvO_len (l : List Nat) : ∀ k, (lvO l k).length = l.length
  | 0 => by simp [lvO]
  | k + 1 => by simp only [lvO, List.length_set]; exact lvO_len l k
theorem lvO_at {l : List Nat} (h : PermL l) : ∀ k, k ≤ l.length → ∀ j, j < k → (lvO l k).getD (l.getD j 0) 0 = j
  | 0, _, j, hj => by omega
  | k + 1, hk, j, hj => by
    simp only [lvO]
    rw [List.getD_eq_getElem?_getD, List.getElem?_set]
    by_cases e : j = k
    · subst e
      rw [if_pos rfl, if_pos (by rw [lvO_len]; exact h.lt (by omega))]
      rfl
    · rw [if_neg (fun e2 => e (h.inj (by omega) (by omega) e2.symm)), ← List.getD_eq_getElem?_getD]
      exact lvO_at h k (by omega) j (by omega)
/-- A new manager with the order l. -/
def newO (l : List Nat) : Mgr := { order := l, level := lvO l l.length, nodes := [(-1, 0, 0), (-1, 0, 0)], shown := [true, true], free := [] }
theorem newO_wf {l : List Nat} (h : PermL l) : (newO l).WF where
  len := lvO_len l _
  ol := fun v hv => by
    obtain ⟨j, hj, e⟩ := List.getElem_of_mem (h.has hv)
    have e2 : l.getD j 0 = v := by rw [List.getD_eq_getElem?_getD, List.getElem?_eq_getElem hj]; exact e
    have := lvO_at h l.length (Nat.le_refl _) j hj
    rw [e2] at this
    show (lvO l l.length).getD v 0 < l.length ∧ l.getD ((lvO l l.length).getD v 0) 0 = v
    rw [this]
    exact ⟨hj, e2⟩
  lo_ := fun i hi => ⟨h.lt hi, lvO_at h l.length (Nat.le_refl _) i hi⟩
  two := by simp [newO]
  nd0 := rfl
  nd1 := rfl
  sh := rfl
  sh0 := rfl
  sh1 := rfl
  shst := fun f hf => by
    rcases Nat.lt_or_ge f 2 with h2 | h2
    · exact .inl h2
    · have : (newO l).vis f = false := by
        show [true, true].getD f false = false
        rw [List.getD_eq_getElem?_getD, List.getElem?_eq_none (by simpa using h2)]; rfl
      rw [this] at hf; cases hf
  node := fun f h2 hl => by
    have : f < 2 := hl
    omega
  inj := fun f g h2 h2' hl => by
    have : f < 2 := hl
    omega
  fr := fun f hf => by cases hf
  fnd := List.nodup_nil
theorem PermL.range (n : Nat) : PermL (List.range n) := ⟨List.nodup_range, fun v hv => by rw [List.length_range]; exact List.mem_range.1 hv⟩
theorem Mgr.WF.perm {M : Mgr} (h : M.WF) : PermL M.order := by
  refine ⟨?_, fun v hv => ?_⟩
  · rw [List.nodup_iff_pairwise_ne, List.pairwise_iff_getElem]
    intro i j hi hj hij e
    have h1 := (h.lo_ i hi).2
    have h2 := (h.lo_ j hj).2
    have e2 : M.ord i = M.ord j := by
      unfold Mgr.ord
      rw [List.getD_eq_getElem?_getD, List.getD_eq_getElem?_getD, List.getElem?_eq_getElem hi, List.getElem?_eq_getElem hj]
      exact e
    rw [e2] at h1
    omega
  · obtain ⟨j, hj, rfl⟩ := List.getElem_of_mem hv
    have := (h.lo_ j hj).1
    unfold Mgr.ord at this
    rw [List.getD_eq_getElem?_getD, List.getElem?_eq_getElem hj] at this
    exact this

end Go.Proofs.YtngbodmooddjbaaGreat
