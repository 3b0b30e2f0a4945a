/-
  Plain: the number of nodes of some functions under an order; a variable at another place of an order.
-/
import Derived.Test.YtngbodmooddjbaaGreatDi
import Derived.Test.YtngbodmooddjbaaGreatSvi
namespace Go.Proofs.YtngbodmooddjbaaGreat

/-- What is left of Fs when the first j variables of an order are fixed. -/
def SubL (l : List Nat) (Fs : List Bfn) : Nat → Bfn → Prop
  | 0, g => g ∈ Fs
  | j + 1, g => ∃ h b, SubL l Fs j h ∧ g = fun a => h (Mgr.upd a (l.getD j 0) b)
def SubN (l : List Nat) (Fs : List Bfn) (g : Bfn) : Prop := Mgr.NonConst g ∧ ∃ j, j ≤ l.length ∧ SubL l Fs j g
/-- Under the order l the functions Fs have k nodes. -/
def IsTot (l : List Nat) (Fs : List Bfn) (k : Nat) : Prop := ∃ gs : List Bfn, gs.Nodup ∧ (∀ g, g ∈ gs ↔ SubN l Fs g) ∧ gs.length = k
theorem const_upd {h : Bfn} (hn : ¬ Mgr.NonConst h) (v : Nat) (b : Bool) : ¬ Mgr.NonConst (fun a => h (Mgr.upd a v b)) := fun ⟨_, _, e⟩ => hn ⟨_, _, e⟩
theorem IsTot.uniq {l : List Nat} {Fs : List Bfn} {k k' : Nat} (h : IsTot l Fs k) (h' : IsTot l Fs k') : k = k' := by
  obtain ⟨gs, n1, m1, rfl⟩ := h
  obtain ⟨gs', n2, m2, rfl⟩ := h'
  exact ((List.perm_ext_iff_of_nodup n1 n2).2 (fun g => (m1 g).trans (m2 g).symm)).length_eq
/-! ### diagrams under an order -/
structure Dia {ι : Type} (l : List Nat) (ids E : List ι) (S : ι → Bfn) (dp : ι → Nat) (lo hi : ι → ι) : Prop where
  nodup : ids.Nodup
  inj : ∀ i j, i ∈ ids → j ∈ ids → S i = S j → i = j
  nc : ∀ i, i ∈ ids → Mgr.NonConst (S i)
  dpn : ∀ i, i ∈ ids → dp i < l.length
  el : ∀ i, i ∈ ids → ∀ a, S i (Mgr.upd a (l.getD (dp i) 0) false) = S (lo i) a
  eh : ∀ i, i ∈ ids → ∀ a, S i (Mgr.upd a (l.getD (dp i) 0) true) = S (hi i) a
  okl : ∀ i, i ∈ ids → (lo i ∈ ids ∧ dp i < dp (lo i)) ∨ (lo i ∉ ids ∧ ¬ Mgr.NonConst (S (lo i)))
  okh : ∀ i, i ∈ ids → (hi i ∈ ids ∧ dp i < dp (hi i)) ∨ (hi i ∉ ids ∧ ¬ Mgr.NonConst (S (hi i)))
  ind : ∀ i, i ∈ ids → ∀ j, j < dp i → ∀ a b, S i (Mgr.upd a (l.getD j 0) b) = S i a
  root : ∀ e, e ∈ E → e ∈ ids ∨ ¬ Mgr.NonConst (S e)
  rch : ∀ i, i ∈ ids → i ∈ E ∨ ∃ c, c ∈ ids ∧ (i = lo c ∨ i = hi c)
section
variable {ι : Type} {l : List Nat} {ids E : List ι} {S : ι → Bfn} {dp : ι → Nat} {lo hi : ι → ι}
theorem Dia.ext (D : Dia l ids E S dp lo hi) {i : ι} (hi' : i ∈ ids) {Fs : List Bfn} : ∀ t j, j + t = dp i → SubL l Fs j (S i) → SubL l Fs (dp i) (S i)
  | 0, j, e, h => by rw [← e]; exact h
  | t + 1, j, e, h => D.ext hi' t (j + 1) (by omega) ⟨S i, false, h, funext fun a => (D.ind i hi' j (by omega) a false).symm⟩
theorem Dia.up (D : Dia l ids E S dp lo hi) : ∀ m i, i ∈ ids → dp i < m → SubL l (E.map S) (dp i) (S i)
  | 0, i, _, e => by omega
  | m + 1, i, hm, e => by
    rcases D.rch i hm with h | ⟨c, hc, h⟩
    · exact D.ext hm (dp i) 0 (by omega) (List.mem_map.2 ⟨i, h, rfl⟩)
    · have key : ∀ b, (∀ a, S c (Mgr.upd a (l.getD (dp c) 0) b) = S i a) → dp c < dp i → SubL l (E.map S) (dp i) (S i) := fun b e1 e2 => by
        have := D.up m c hc (by omega)
        exact D.ext hm (dp i - (dp c + 1)) (dp c + 1) (by omega) ⟨S c, b, this, funext fun a => (e1 a).symm⟩
      rcases h with h | h
      · refine key false (fun a => by rw [D.el c hc, h]) ?_
        rcases D.okl c hc with x | x
        · rw [h]; exact x.2
        · exact absurd (h ▸ hm) x.1
      · refine key true (fun a => by rw [D.eh c hc, h]) ?_
        rcases D.okh c hc with x | x
        · rw [h]; exact x.2
        · exact absurd (h ▸ hm) x.1
theorem Dia.down (D : Dia l ids E S dp lo hi) : ∀ j g, SubL l (E.map S) j g → ¬ Mgr.NonConst g ∨ ∃ i, i ∈ ids ∧ g = S i ∧ j ≤ dp i
  | 0, g, h => by
    obtain ⟨e, he, rfl⟩ := List.mem_map.1 h
    rcases D.root e he with x | x
    · exact .inr ⟨e, x, rfl, Nat.zero_le _⟩
    · exact .inl x
  | j + 1, g, ⟨h, b, h1, e⟩ => by
    rcases D.down j h h1 with c | ⟨i, hi', rfl, hd⟩
    · left; rw [e]; exact const_upd c _ _
    · by_cases e1 : j < dp i
      · exact .inr ⟨i, hi', by rw [e]; exact funext fun a => D.ind i hi' j e1 a b, e1⟩
      · have e2 : j = dp i := by omega
        cases b
        · have eg : g = S (lo i) := by rw [e, e2]; exact funext fun a => D.el i hi' a
          rw [eg]
          rcases D.okl i hi' with x | x
          · exact .inr ⟨_, x.1, rfl, by omega⟩
          · exact .inl x.2
        · have eg : g = S (hi i) := by rw [e, e2]; exact funext fun a => D.eh i hi' a
          rw [eg]
          rcases D.okh i hi' with x | x
          · exact .inr ⟨_, x.1, rfl, by omega⟩
          · exact .inl x.2
theorem Dia.tot (D : Dia l ids E S dp lo hi) : IsTot l (E.map S) ids.length := by
  refine ⟨ids.map S, ?_, fun g => ⟨fun h => ?_, fun h => ?_⟩, List.length_map _⟩
  · have h := D.nodup
    rw [List.nodup_iff_pairwise_ne] at h ⊢
    rw [List.pairwise_map]
    exact h.imp_of_mem (fun ha hb hn e => hn (D.inj _ _ ha hb e))
  · obtain ⟨i, hi', rfl⟩ := List.mem_map.1 h
    exact ⟨D.nc i hi', dp i, Nat.le_of_lt (D.dpn i hi'), D.up _ i hi' (Nat.lt_succ_self _)⟩
  · obtain ⟨n, j, _, hg⟩ := h
    rcases D.down j g hg with c | ⟨i, hi', rfl, _⟩
    · exact (c n).elim
    · exact List.mem_map.2 ⟨i, hi', rfl⟩
end

/-! ### the nodes of a manager -/
theorem walk_sub (M : Mgr) : ∀ (k : Nat) (s : List Nat × List Nat) (f g : Nat), g ∈ s.2 → g ∈ (M.walkS k s f).2
  | 0, _, _, _, h => h
  | k + 1, s, f, g, h => by
    unfold Mgr.walkS
    split
    · exact h
    · exact List.mem_append.2 (.inl (walk_sub M k _ _ g (walk_sub M k (f :: s.1, s.2) _ g h)))
theorem walk_rch (M : Mgr) : ∀ (k : Nat) (s : List Nat × List Nat) (f g : Nat), g ∈ (M.walkS k s f).2 → g ∈ s.2 ∨ g = f ∨ ∃ c, c ∈ (M.walkS k s f).2 ∧ (g = (M.nd c).2.1 ∨ g = (M.nd c).2.2)
  | 0, _, _, _, h => .inl h
  | k + 1, s, f, g, h => by
    unfold Mgr.walkS at h ⊢
    split at h
    · rename_i c
      rw [if_pos c]
      exact .inl h
    · rename_i c
      rw [if_neg c]
      rcases List.mem_append.1 h with h | h
      · rcases walk_rch M k _ _ g h with h1 | h1 | ⟨c, hc, h1⟩
        · rcases walk_rch M k (f :: s.1, s.2) _ g h1 with h2 | h2 | ⟨c, hc, h2⟩
          · exact .inl h2
          · exact .inr (.inr ⟨f, List.mem_append.2 (.inr (List.mem_singleton.2 rfl)), .inl h2⟩)
          · exact .inr (.inr ⟨c, List.mem_append.2 (.inl (walk_sub M k _ _ c hc)), h2⟩)
        · exact .inr (.inr ⟨f, List.mem_append.2 (.inr (List.mem_singleton.2 rfl)), .inr h1⟩)
        · exact .inr (.inr ⟨c, List.mem_append.2 (.inl hc), h1⟩)
      · exact .inr (.inl (List.mem_singleton.1 h))
theorem walks_rch (M : Mgr) : ∀ (rs : List Nat) (s : List Nat × List Nat), (∀ g, g ∈ s.2 → g ∈ (rs.foldl (fun s f => M.walkS (M.n + 1) s f) s).2) ∧
    ∀ g, g ∈ (rs.foldl (fun s f => M.walkS (M.n + 1) s f) s).2 → g ∈ s.2 ∨ g ∈ rs ∨ ∃ c, c ∈ (rs.foldl (fun s f => M.walkS (M.n + 1) s f) s).2 ∧ (g = (M.nd c).2.1 ∨ g = (M.nd c).2.2)
  | [], s => ⟨fun _ h => h, fun _ h => .inl h⟩
  | f :: rs, s => by
    obtain ⟨i1, i2⟩ := walks_rch M rs (M.walkS (M.n + 1) s f)
    rw [List.foldl_cons]
    refine ⟨fun g h => i1 g (walk_sub M _ s f g h), fun g h => ?_⟩
    rcases i2 g h with h1 | h1 | h1
    · rcases walk_rch M _ s f g h1 with h2 | h2 | ⟨c, hc, h2⟩
      · exact .inl h2
      · exact .inr (.inl (by rw [h2]; exact .head _))
      · exact .inr (.inr ⟨c, i1 c hc, h2⟩)
    · exact .inr (.inl (.tail _ h1))
    · exact .inr (.inr h1)
theorem sem_low_const (M : Mgr) {f : Nat} (hf : f < 2) : ¬ Mgr.NonConst (M.sem f) := fun ⟨a, b, e⟩ => e (by rw [Mgr.sem_const _ _ _ hf, Mgr.sem_const _ _ _ hf])
theorem Mgr.dia {M : Mgr} (h : M.WF) {rs : List Nat} (hr : ∀ f, f ∈ rs → M.stored f) : Dia M.order (walkAll M rs).2 rs M.sem M.depth (fun f => (M.nd f).2.1) (fun f => (M.nd f).2.2) := by
  have v := walkAll_seen h rs hr
  have cl : ∀ i, i ∈ (walkAll M rs).2 → (2 ≤ (M.nd i).2.1 → (M.nd i).2.1 ∈ (walkAll M rs).2) ∧ (2 ≤ (M.nd i).2.2 → (M.nd i).2.2 ∈ (walkAll M rs).2) := fun i hi => by
    have := v.closed i ((v.mem i).2 hi) (Nat.zero_le _) (v.st i hi).2
    exact ⟨fun x => (v.mem _).1 (this.1 x), fun x => (v.mem _).1 (this.2 x)⟩
  have kid : ∀ c, ((2 ≤ c → c ∈ (walkAll M rs).2)) → ∀ d, d < M.depth c → (c ∈ (walkAll M rs).2 ∧ d < M.depth c) ∨ (c ∉ (walkAll M rs).2 ∧ ¬ Mgr.NonConst (M.sem c)) := fun c hc d hd => by
    rcases Nat.lt_or_ge c 2 with x | x
    · exact .inr ⟨fun y => by have := (v.st c y).2; omega, sem_low_const M x⟩
    · exact .inl ⟨hc x, hd⟩
  have at_ : ∀ i, i ∈ (walkAll M rs).2 → M.order.getD (M.depth i) 0 = (M.nd i).1.toNat := fun i hi => (dep_at h (v.st i hi).1 (v.st i hi).2).1
  refine ⟨v.nodup, fun i j hi hj e => Mgr.canon h (v.st i hi).1 (v.st j hj).1 (fun a => congrFun e a), fun i hi => Mgr.two_nonconst h (v.st i hi).1 (v.st i hi).2, fun i hi => Mgr.depth_lt h (v.st i hi).1 (v.st i hi).2,
    fun i hi a => by rw [at_ i hi]; exact (Mgr.sem_lo h (v.st i hi).1 (v.st i hi).2 a).symm, fun i hi a => by rw [at_ i hi]; exact (Mgr.sem_hi h (v.st i hi).1 (v.st i hi).2 a).symm, fun i hi => ?_, fun i hi => ?_, fun i hi j hj a b => ?_, fun e he => ?_, fun i hi => ?_⟩
  · exact kid _ (cl i hi).1 _ (Mgr.node_of h (v.st i hi).1 (v.st i hi).2).2.2.2.2.2.1
  · exact kid _ (cl i hi).2 _ (Mgr.node_of h (v.st i hi).1 (v.st i hi).2).2.2.2.2.2.2
  · have hd := Mgr.depth_lt h (v.st i hi).1 (v.st i hi).2
    refine Mgr.sem_upd h (v.st i hi).1 a _ b ?_
    have := (h.lo_ j (by omega)).2
    show M.lev (M.ord j) < _
    omega
  · rcases Nat.lt_or_ge e 2 with x | x
    · exact .inr (sem_low_const M x)
    · exact .inl (walkAll_mem h rs hr e he x)
  · rcases (walks_rch M rs ([], [])).2 i hi with x | x
    · cases x
    · exact x
/-! ### the nodes of a diagram -/
theorem Dg.Inv.dia {D : Dg} {k : Nat} {E : List Nat} {S : Nat → Bfn} {Fs : List Bfn} (h : D.Inv k [] E S Fs) : Dia D.order D.liveL E S (D.dep k []) (fun i => (D.nd i).2.1) (fun i => (D.nd i).2.2) := by
  have nP : ∀ i, i ∉ ([] : List Nat) := fun _ x => by cases x
  have lv : ∀ {i}, i ∈ D.liveL → D.live i := Dg.mem_liveL.1
  have dpl : ∀ i, D.live i → D.dep k [] i = D.pos (D.nd i).1.toNat := fun i hi => Dg.dep_live hi (nP i)
  have at_ : ∀ i, D.live i → D.order.getD (D.dep k [] i) 0 = (D.nd i).1.toNat := fun i hi => by rw [dpl i hi]; exact (posO_of h.perm (h.nd i hi).vn).2
  have kid : ∀ c, D.ok c → ∀ d, d < D.dep k [] c → (c ∈ D.liveL ∧ d < D.dep k [] c) ∨ (c ∉ D.liveL ∧ ¬ Mgr.NonConst (S c)) := fun c hc d hd => by
    rcases hc with x | x
    · refine .inr ⟨fun y => by have := (lv y).1; omega, ?_⟩
      have : c = 0 ∨ c = 1 := by omega
      rcases this with rfl | rfl
      · rw [h.s0]; exact fun ⟨_, _, e⟩ => e rfl
      · rw [h.s1]; exact fun ⟨_, _, e⟩ => e rfl
    · exact .inl ⟨Dg.mem_liveL.2 x, hd⟩
  refine ⟨D.liveL_nodup, fun i j hi hj e => h.inj i j (.inr (lv hi)) (.inr (lv hj)) e, fun i hi => ?_, fun i hi => ?_, fun i hi a => by rw [at_ i (lv hi)]; exact h.lo_at (lv hi) (nP i) a, fun i hi a => by rw [at_ i (lv hi)]; exact h.hi_at (lv hi) (nP i) a, fun i hi => ?_, fun i hi => ?_, fun i hi j hj a b => ?_, fun e he => ?_, fun i hi => ?_⟩
  · by_cases c : Mgr.NonConst (S i)
    · exact c
    · refine (h.depends (lv hi) (nP i) (fun a b => ?_)).elim
      by_cases e : S i (Mgr.upd a (D.nd i).1.toNat b) = S i a
      · exact e
      · exact (c ⟨_, _, e⟩).elim
  · rw [dpl i (lv hi)]; exact (posO_of h.perm (h.nd i (lv hi)).vn).1
  · refine kid _ (h.nd i (lv hi)).lo _ ?_
    rw [dpl i (lv hi)]; exact (h.dp i (lv hi) (nP i)).1
  · refine kid _ (h.nd i (lv hi)).hi _ ?_
    rw [dpl i (lv hi)]; exact (h.dp i (lv hi) (nP i)).2
  · have hd := h.dep_le (.inr (lv hi))
    have hj' : j < D.order.length := Nat.lt_of_lt_of_le hj hd
    refine h.indep (.inr (lv hi)) (h.perm.lt hj') ?_ a b
    have := posO_at h.perm hj'
    show posO D.order (D.order.getD j 0) < _
    omega
  · rcases h.eok e he with x | x
    · have := kid e (.inl x) 0
      have c : e = 0 ∨ e = 1 := by omega
      right
      rcases c with rfl | rfl
      · rw [h.s0]; exact fun ⟨_, _, e⟩ => e rfl
      · rw [h.s1]; exact fun ⟨_, _, e⟩ => e rfl
    · exact .inl (Dg.mem_liveL.2 x)
  · rcases List.mem_append.1 (h.use i (lv hi)) with x | x
    · obtain ⟨c, hc, e⟩ := Dg.mem_kids.1 x
      exact .inr ⟨c, Dg.mem_liveL.2 hc, e⟩
    · exact .inl x
theorem Dg.Inv.isTot {D : Dg} {k : Nat} {E : List Nat} {S : Nat → Bfn} {Fs : List Bfn} (h : D.Inv k [] E S Fs) : IsTot D.order (E.map S) D.total := by
  rw [h.tot]; exact h.dia.tot

/-! ### a variable at another place -/
def insO (m : List Nat) (v p : Nat) : List Nat := m.take p ++ v :: m.drop p
theorem insO_len (m : List Nat) (v p : Nat) : (insO m v p).length = m.length + 1 := by
  unfold insO
  rw [List.length_append, List.length_cons, List.length_take, List.length_drop]
  omega
theorem insO_get {m : List Nat} {v p : Nat} (hp : p ≤ m.length) (i : Nat) : (insO m v p).getD i 0 = if i < p then m.getD i 0 else if i = p then v else m.getD (i - 1) 0 := by
  unfold insO
  have hl : (m.take p).length = p := by rw [List.length_take]; omega
  rw [List.getD_eq_getElem?_getD, List.getElem?_append, hl]
  by_cases h1 : i < p
  · rw [if_pos h1, if_pos h1, List.getElem?_take, if_pos h1, ← List.getD_eq_getElem?_getD]
  · rw [if_neg h1, if_neg h1]
    by_cases h2 : i = p
    · subst h2
      rw [if_pos rfl, Nat.sub_self]; rfl
    · rw [if_neg h2]
      obtain ⟨t, ht⟩ : ∃ t, i - p = t + 1 := ⟨i - p - 1, by omega⟩
      rw [ht, List.getElem?_cons_succ, List.getElem?_drop, ← List.getD_eq_getElem?_getD]
      congr 1
      omega
theorem getD_ext {l m : List Nat} (hl : l.length = m.length) (h : ∀ i, i < l.length → l.getD i 0 = m.getD i 0) : l = m := by
  apply List.ext_getElem hl
  intro i h1 h2
  have := h i h1
  rw [List.getD_eq_getElem?_getD, List.getD_eq_getElem?_getD, List.getElem?_eq_getElem h1, List.getElem?_eq_getElem h2] at this
  exact this
theorem swO_ins {m : List Nat} {v p : Nat} (hp : p < m.length) : swO (insO m v p) p = insO m v (p + 1) := by
  have hl := insO_len m v p
  refine getD_ext (by rw [swO_len, hl, insO_len]) (fun i _ => ?_)
  rw [swO_get (by omega), insO_get (by omega), insO_get (by omega), insO_get (by omega), insO_get (by omega)]
  by_cases h1 : i = p + 1
  · subst h1
    rw [if_pos rfl, if_neg (by omega), if_pos rfl, if_neg (by omega), if_pos rfl]
  · rw [if_neg h1]
    by_cases h2 : i = p
    · subst h2
      rw [if_pos rfl, if_neg (by omega), if_neg (by omega), if_pos (by omega)]
      rfl
    · rw [if_neg h2]
      by_cases h3 : i < p
      · rw [if_pos h3, if_pos (by omega)]
      · rw [if_neg h3, if_neg h2, if_neg (by omega), if_neg h1]
theorem swO_back {m : List Nat} {v p : Nat} (hp : p < m.length) : swO (insO m v (p + 1)) p = insO m v p := by
  rw [← swO_ins hp]
  exact swO_twice (by rw [insO_len]; omega)
theorem insO_at {m : List Nat} {v p : Nat} (hp : p ≤ m.length) : (insO m v p).getD p 0 = v := by rw [insO_get hp, if_neg (by omega), if_pos rfl]
theorem insO_erase {l : List Nat} {s : Nat} (hs : s < l.length) : insO (l.eraseIdx s) (l.getD s 0) s = l := by
  have e : (l.eraseIdx s).length = l.length - 1 := by rw [List.length_eraseIdx, if_pos hs]
  refine getD_ext (by rw [insO_len, e]; omega) (fun i _ => ?_)
  rw [insO_get (by omega)]
  by_cases h1 : i < s
  · rw [if_pos h1, List.getD_eq_getElem?_getD, List.getElem?_eraseIdx, if_pos h1, ← List.getD_eq_getElem?_getD]
  · rw [if_neg h1]
    by_cases h2 : i = s
    · rw [if_pos h2, h2]
    · rw [if_neg h2, List.getD_eq_getElem?_getD, List.getElem?_eraseIdx, if_neg (by omega), ← List.getD_eq_getElem?_getD]
      congr 1
      omega
/-! ### a variable that no cell has -/
theorem Dg.swap0_tot {D : Dg} {k : Nat} {E : List Nat} {S : Nat → Bfn} {Fs : List Bfn} (h : D.Inv k [] E S Fs) (hk : k + 1 < D.n) {v : Nat} (hv : v = D.vr k ∨ v = D.vr (k + 1)) (hno : ∀ i, D.live i → (D.nd i).1 ≠ (v : Int)) :
    (D.swap0 k []).Inv k [] E S Fs ∧ ∀ i, (D.swap0 k []).live i → ((D.swap0 k []).nd i).1 ≠ (v : Int) := by
  refine ⟨h.start hk List.nodup_nil (fun i => ⟨fun x => (by cases x), fun ⟨h1, h2, h3⟩ => ?_⟩), hno⟩
  rcases hv with rfl | rfl
  · exact (hno i h1 h2).elim
  · have lc : ∀ c, D.ok c → (D.nd c).1 = (D.vr (k + 1) : Int) → False := fun c hc e => by
      rcases hc with x | x
      · have c01 : c = 0 ∨ c = 1 := by omega
        rcases c01 with rfl | rfl
        · rw [h.cv.1] at e; omega
        · rw [h.cv.2] at e; omega
      · exact hno c x e
    rcases h3 with h3 | h3
    · exact (lc _ (h.nd i h1).lo h3).elim
    · exact (lc _ (h.nd i h1).hi h3).elim
/-- A variable that no cell has may stand anywhere. -/
theorem Dg.absent {E : List Nat} {S : Nat → Bfn} {Fs : List Bfn} {m : List Nat} {v : Nat} {D : Dg} (h : D.Inv 0 [] E S Fs) {s : Nat} (hs : s ≤ m.length) (ho : D.order = insO m v s) (hno : ∀ i, D.live i → (D.nd i).1 ≠ (v : Int)) :
    ∀ p, p ≤ m.length → IsTot (insO m v p) (E.map S) D.total := by
  have up : ∀ t (D : Dg) s, D.Inv 0 [] E S Fs → s + t ≤ m.length → D.order = insO m v s → (∀ i, D.live i → (D.nd i).1 ≠ (v : Int)) → IsTot (insO m v (s + t)) (E.map S) D.total := by
    intro t
    induction t with
    | zero => intro D s h _ ho _; rw [← show D.order = insO m v (s + 0) from ho]; exact h.isTot
    | succ t ih =>
      intro D s h hst ho hno
      have hv : D.vr s = v := by unfold Dg.vr; rw [ho, insO_at (by omega)]
      have hn : s + 1 < D.n := by unfold Dg.n; rw [ho, insO_len]; omega
      obtain ⟨i1, i2⟩ := Dg.swap0_tot (h.k' s) hn (.inl hv.symm) hno
      have := ih (D.swap0 s []) (s + 1) (i1.k' 0) (by omega) (by show swO D.order s = _; rw [ho, swO_ins (by omega)]) i2
      rw [show s + (t + 1) = s + 1 + t by omega]
      exact this
  have dn : ∀ t (D : Dg) s, D.Inv 0 [] E S Fs → t ≤ s → s ≤ m.length → D.order = insO m v s → (∀ i, D.live i → (D.nd i).1 ≠ (v : Int)) → IsTot (insO m v (s - t)) (E.map S) D.total := by
    intro t
    induction t with
    | zero => intro D s h _ _ ho _; rw [← show D.order = insO m v (s - 0) from ho]; exact h.isTot
    | succ t ih =>
      intro D s h hst hs ho hno
      obtain ⟨q, rfl⟩ : ∃ q, s = q + 1 := ⟨s - 1, by omega⟩
      have hv : D.vr (q + 1) = v := by unfold Dg.vr; rw [ho, insO_at (by omega)]
      have hn : q + 1 < D.n := by unfold Dg.n; rw [ho, insO_len]; omega
      obtain ⟨i1, i2⟩ := Dg.swap0_tot (h.k' q) hn (.inr hv.symm) hno
      have := ih (D.swap0 q []) q (i1.k' 0) (by omega) (by omega) (by show swO D.order q = _; rw [ho, swO_back (by omega)]) i2
      rw [show q + 1 - (t + 1) = q - t by omega]
      exact this
  intro p hp
  rcases Nat.lt_or_ge s p with c | c
  · have := up (p - s) D s h (by omega) ho hno
    rw [show s + (p - s) = p by omega] at this
    exact this
  · have := dn (s - p) D s h (by omega) hs ho hno
    rw [show s - (s - p) = p by omega] at this
    exact this

end Go.Proofs.YtngbodmooddjbaaGreat
