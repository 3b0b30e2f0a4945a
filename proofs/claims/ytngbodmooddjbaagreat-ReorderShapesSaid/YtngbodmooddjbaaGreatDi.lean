/-
  Plain: the diagram of the package reorder: the start of an exchange, 'split', what 'use' and 'drop' leave, one round of the exchange.
-/
import Derived.Test.YtngbodmooddjbaaGreatRep
import Derived.Test.YtngbodmooddjbaaGreatSx
import Derived.Maps.RangeRun
namespace Go.Proofs.YtngbodmooddjbaaGreat
open Go.RowKit
open Go.ChangeMaps (setBlock)
open Go.MapKept (heap_set)

section
variable {K V : Type}

abbrev Zl (K V : Type) := List (MapEntry × (K × V))
/-- The entries of a map, each with its key and its value as they are meant. -/
structure ZOk (enc : K → Value) (ev : V → Value) (Z : Zl K V) (clock : Nat) : Prop where
  kv : ∀ z, z ∈ Z → z.1.key = enc z.2.1 ∧ z.1.val = ev z.2.2
  kn : (Z.map fun z => z.2.1).Nodup
  bn : (Z.map fun z => z.1.born).Nodup
  bl : ∀ z, z ∈ Z → z.1.born < clock
/-- Block b is a map with just the entries of l. -/
def MapL (w : World) (b : Nat) (enc : K → Value) (ev : V → Value) (l : List (K × V)) : Prop :=
  ∃ (Z : Zl K V) (clock : Nat), w.heap[b]? = some (.map (Z.map (·.1)).toArray clock) ∧ l = Z.map (·.2) ∧ ZOk enc ev Z clock

variable {w : World} {b : Nat} {enc : K → Value} {ev : V → Value} {l : List (K × V)}
theorem MapL.lt (h : MapL w b enc ev l) : b < w.heap.size := by
  obtain ⟨Z, c, hb, _⟩ := h
  exact heap_lt hb
theorem MapL.kp {A : Nat → Prop} {w' : World} (h : MapL w b enc ev l) (hk : Kp A w w') (hn : ¬ A b) : MapL w' b enc ev l := by
  obtain ⟨Z, c, hb, r⟩ := h
  exact ⟨Z, c, by rw [hk.block b (heap_lt hb) hn]; exact hb, r⟩
theorem MapL.empty (w : World) (enc : K → Value) (ev : V → Value) : MapL (w.alloc (.map #[] 0)) w.heap.size enc ev [] :=
  ⟨[], 0, heap_alloc_new w _, rfl, ⟨fun _ h => by (cases h), List.nodup_nil, List.nodup_nil, fun _ h => by (cases h)⟩⟩
theorem ZOk.ents {Z : Zl K V} {c : Nat} (z : ZOk enc ev Z c) : (Z.map (·.1)).map (fun e => (e.key, e.val)) = (Z.map (·.2)).map (fun x => (enc x.1, ev x.2)) := by
  rw [List.map_map, List.map_map]
  exact List.map_congr_left fun x hx => Prod.ext (z.kv x hx).1 (z.kv x hx).2
theorem ZOk.keys {Z : Zl K V} {c : Nat} (z : ZOk enc ev Z c) : (Z.map (·.1)).map (·.key) = (Z.map fun z => z.2.1).map enc := by
  rw [List.map_map, List.map_map]
  exact List.map_congr_left fun x hx => (z.kv x hx).1
theorem MapL.nodup (h : MapL w b enc ev l) : (l.map (·.1)).Nodup := by
  obtain ⟨Z, c, hb, rfl, z⟩ := h
  rw [List.map_map]
  exact z.kn
theorem nodup_same {α : Type} {l : List α} (h : l.Nodup) {i j : Nat} {x : α} (hi : l[i]? = some x) (hj : l[j]? = some x) : i = j := by
  obtain ⟨li, ei⟩ := List.getElem?_eq_some_iff.1 hi
  obtain ⟨lj, ej⟩ := List.getElem?_eq_some_iff.1 hj
  have p := List.pairwise_iff_getElem.1 h
  rcases Nat.lt_trichotomy i j with c | c | c
  · exact (p i j li lj c (by rw [ei, ej])).elim
  · exact c
  · exact (p j i lj li c (by rw [ei, ej])).elim
theorem eraseIdx_map' {α β : Type} (f : α → β) : ∀ (l : List α) (i : Nat), (l.map f).eraseIdx i = (l.eraseIdx i).map f
  | [], _ => by simp
  | _ :: _, 0 => rfl
  | x :: l, i + 1 => by simp [eraseIdx_map' f l i]
end

section
variable {K V : Type} [DecidableEq K] {w : World} {b : Nat} {enc : K → Value} {ev : V → Value} {l : List (K × V)}
theorem MapL.as (h : MapL w b enc ev l) : MapAs w b enc ev (lk l) := by
  obtain ⟨Z, c, hb, rfl, z⟩ := h
  exact ⟨_, c, hb, Z.map (·.2), z.ents, fun _ => rfl⟩
theorem lk_none {l : List (K × V)} {k : K} : lk l k = none ↔ ∀ v, (k, v) ∉ l := by
  unfold lk
  rw [Option.map_eq_none_iff, List.find?_eq_none]
  constructor
  · intro h v hv
    exact h _ hv (decide_eq_true rfl)
  · rintro h ⟨a, v⟩ hx e
    have : a = k := by simpa using e
    subst this
    exact h v hx
theorem lk_some {l : List (K × V)} (hn : (l.map (·.1)).Nodup) {k : K} {v : V} : lk l k = some v ↔ (k, v) ∈ l := by
  induction l with
  | nil => simp [lk]
  | cons x l ih =>
    obtain ⟨a, u⟩ := x
    rw [List.map_cons, List.nodup_cons] at hn
    have ih := ih hn.2
    unfold lk at ih ⊢
    rw [List.find?_cons]
    by_cases e : a = k
    · subst e
      rw [decide_eq_true rfl, List.mem_cons]
      constructor
      · intro h
        left
        simp only [Option.map_some, Option.some.injEq] at h
        rw [h]
      · rintro (h | h)
        · cases h; rfl
        · exact absurd (List.mem_map.2 ⟨_, h, rfl⟩) hn.1
    · rw [decide_eq_false e, ih, List.mem_cons]
      exact ⟨.inr, fun h => h.resolve_left (fun h => e (by cases h; rfl))⟩
/-- A key that is not there is put in. -/
theorem MapL.push {P : Program} {t kt et : TypeId} (h : MapL w b enc ev l) (ok : KeyOk P kt enc) (ht : P.underlying t = some (.map kt et)) (k : K) (v : V) (hk : lk l k = none) :
    ∃ w', (∀ n, (Instr.mapUpdate t (.map (some b)) (enc k) (ev v)).run P (w.drewN n) = .ok () (w'.drewN n)) ∧ MapL w' b enc ev (l ++ [(k, v)]) ∧ Kp (fun x => x = b) w w' ∧ w'.heap.size = w.heap.size := by
  obtain ⟨Z, clock, hb, rfl, z⟩ := h
  have hks : (Z.map (·.1)).toArray.toList.map (·.key) = (Z.map fun z => z.2.1).map enc := z.keys
  have h1 := fun n => ok.find (w.drewN n) k (Z.map (·.1)).toArray.toList _ hks
  have hbn : ∀ n, (w.drewN n).heap[b]? = some (.map (Z.map (·.1)).toArray clock) := fun n => hb
  have hr : (Z.map fun z => z.2.1).findIdx? (fun x => decide (x = k)) = none := by
    rw [List.findIdx?_eq_none_iff]
    intro x hx
    obtain ⟨y, hy, rfl⟩ := List.mem_map.1 hx
    apply decide_eq_false
    rintro rfl
    exact lk_none.1 hk y.2.2 (List.mem_map.2 ⟨y, hy, rfl⟩)
  refine ⟨{ w with heap := w.heap.setIfInBounds b (.map ((Z.map (·.1)).toArray.push { key := enc k, val := ev v, born := clock }) (clock + 1)) }, fun n => ?_, ⟨Z ++ [(⟨enc k, ev v, clock⟩, (k, v))], clock + 1, by simp [heap_lt hb], by simp, ?_, ?_, ?_, ?_⟩, ⟨rfl, rfl, rfl, by simp, fun j _ hj => by simp [Ne.symm hj]⟩, by simp⟩
  · have h1' := h1 n
    rw [hr] at h1'
    simp only [Instr.mapUpdate, Sem.run_bind, run_underlying ht, Result.andThen_ok, MapKept.run_getObj_map (hbn n), ok.check, h1']
    simp only [Option.bind_none, MapKept.run_setObj_map _ (hbn n)]
    rfl
  · intro x hx
    rcases List.mem_append.1 hx with hx | hx
    · exact z.kv x hx
    · rw [List.mem_singleton.1 hx]; exact ⟨rfl, rfl⟩
  · rw [List.map_append]
    refine List.nodup_append.2 ⟨z.kn, by simp, fun x hx y hy e => ?_⟩
    obtain ⟨u, hu, rfl⟩ := List.mem_map.1 hx
    have : y = k := by simpa using hy
    subst this
    exact lk_none.1 hk u.2.2 (List.mem_map.2 ⟨u, hu, by rw [← e]⟩)
  · rw [List.map_append]
    refine List.nodup_append.2 ⟨z.bn, by simp, fun x hx y hy e => ?_⟩
    obtain ⟨u, hu, rfl⟩ := List.mem_map.1 hx
    have : y = clock := by simpa using hy
    have := z.bl u hu
    omega
  · intro x hx
    rcases List.mem_append.1 hx with hx | hx
    · have := z.bl x hx; omega
    · rw [List.mem_singleton.1 hx]; exact Nat.lt_succ_self _
theorem nodup_erase {α : Type} : ∀ {l : List α} (i : Nat), l.Nodup → (l.eraseIdx i).Nodup := fun i h => h.sublist (List.eraseIdx_sublist _ i)
/-- A key is taken out. -/
theorem MapL.del {P : Program} {t kt et : TypeId} (h : MapL w b enc ev l) (ok : KeyOk P kt enc) (ht : P.underlying t = some (.map kt et)) (k : K) :
    ∃ w' l', (∀ n ty, (Builtin.delete_ #[t, kt] ty #[.map (some b), enc k]).run P (w.drewN n) = .ok (.tuple #[]) (w'.drewN n)) ∧ MapL w' b enc ev l' ∧ (∀ x, lk l' x = if x = k then none else lk l x) ∧ Kp (fun x => x = b) w w' ∧ w'.heap.size = w.heap.size := by
  have hnd := h.nodup
  obtain ⟨Z, clock, hb, rfl, z⟩ := h
  have hks : (Z.map (·.1)).toArray.toList.map (·.key) = (Z.map fun z => z.2.1).map enc := z.keys
  have h1 := fun n => ok.find (w.drewN n) k (Z.map (·.1)).toArray.toList _ hks
  have hbn : ∀ n, (w.drewN n).heap[b]? = some (.map (Z.map (·.1)).toArray clock) := fun n => hb
  cases hr : (Z.map fun z => z.2.1).findIdx? (fun x => decide (x = k)) with
  | none =>
    refine ⟨{ w with heap := w.heap.setIfInBounds b (.map (Z.map (·.1)).toArray clock) }, Z.map (·.2), fun n ty => ?_, ⟨Z, clock, by simp [heap_lt hb], rfl, z⟩, fun x => ?_, ⟨rfl, rfl, rfl, by simp, fun j _ hj => by simp [Ne.symm hj]⟩, by simp⟩
    · have h1' := h1 n
      rw [hr] at h1'
      simp [Builtin.delete_, run_underlying ht, MapKept.run_getObj_map (hbn n), ok.check, h1', MapKept.run_setObj_map _ (hbn n), Result.andThen]
      rfl
    · by_cases e : x = k
      · subst e
        rw [if_pos rfl, lk_none]
        intro v hv
        obtain ⟨y, hy, hy2⟩ := List.mem_map.1 hv
        have h3 := List.findIdx?_eq_none_iff.1 hr y.2.1 (List.mem_map.2 ⟨y, hy, rfl⟩)
        rw [hy2] at h3
        exact of_decide_eq_false h3 rfl
      · rw [if_neg e]
  | some i =>
    obtain ⟨hi, h2, _⟩ := List.findIdx?_eq_some_iff_getElem.1 hr
    have hiZ : i < Z.length := by simpa using hi
    have h2k : (Z[i]).2.1 = k := by simpa using h2
    have hie : i < (Z.map (·.1)).toArray.toList.length := by simpa using hiZ
    have hE : ((Z.map (·.1)).toArray.eraseIdxIfInBounds i) = ((Z.eraseIdx i).map (·.1)).toArray := by
      apply Array.ext'
      unfold Array.eraseIdxIfInBounds
      rw [dif_pos (by simpa using hiZ)]
      simp [eraseIdx_map']
    have hnd' : (((Z.eraseIdx i).map (·.2)).map (·.1)).Nodup := by
      rw [← eraseIdx_map', ← eraseIdx_map']
      exact nodup_erase i hnd
    refine ⟨{ w with heap := w.heap.setIfInBounds b (.map ((Z.eraseIdx i).map (·.1)).toArray clock) }, (Z.eraseIdx i).map (·.2), fun n ty => ?_, ⟨Z.eraseIdx i, clock, by simp [heap_lt hb], rfl, fun x hx => z.kv x ((List.eraseIdx_sublist _ _).subset hx), ?_, ?_, fun x hx => z.bl x ((List.eraseIdx_sublist _ _).subset hx)⟩, fun x => ?_, ⟨rfl, rfl, rfl, by simp, fun j _ hj => by simp [Ne.symm hj]⟩, by simp⟩
    · have h1' := h1 n
      rw [hr] at h1'
      rw [← hE]
      simp only [Option.bind_some, List.getElem?_eq_getElem hie, Option.map_some] at h1'
      simp [Builtin.delete_, run_underlying ht, MapKept.run_getObj_map (hbn n), ok.check, h1', MapKept.run_setObj_map _ (hbn n), Result.andThen]
      rfl
    · rw [← eraseIdx_map']; exact nodup_erase i z.kn
    · rw [← eraseIdx_map']; exact nodup_erase i z.bn
    · have hmem : ∀ u v, (u, v) ∈ (Z.eraseIdx i).map (·.2) ↔ u ≠ k ∧ (u, v) ∈ Z.map (·.2) := fun u v => by
        rw [← eraseIdx_map', List.mem_eraseIdx_iff_getElem?]
        constructor
        · rintro ⟨j, hj, he⟩
          refine ⟨?_, List.mem_of_getElem? he⟩
          rintro rfl
          have hjl : j < (Z.map (·.2)).length := (List.getElem?_eq_some_iff.1 he).1
          apply hj
          have e1 : ((Z.map (·.2)).map (·.1))[j]? = some u := by rw [List.getElem?_map, he]; rfl
          have e2 : ((Z.map (·.2)).map (·.1))[i]? = some u := by
            rw [List.getElem?_map, List.getElem?_map, List.getElem?_eq_getElem hiZ]
            exact congrArg some h2k
          exact nodup_same hnd e1 e2
        · rintro ⟨hu, hv⟩
          obtain ⟨j, hj⟩ := List.getElem?_of_mem hv
          refine ⟨j, fun e => hu ?_, hj⟩
          subst e
          rw [List.getElem?_map, List.getElem?_eq_getElem hiZ] at hj
          have := congrArg (·.1) (Option.some.inj hj)
          exact this.symm.trans h2k
      by_cases e : x = k
      · subst e
        rw [if_pos rfl, lk_none]
        exact fun v hv => ((hmem x v).1 hv).1 rfl
      · rw [if_neg e]
        cases hx : lk (Z.map (·.2)) x with
        | none => exact lk_none.2 fun v hv => lk_none.1 hx v ((hmem x v).1 hv).2
        | some v => exact (lk_some hnd').2 ((hmem x v).2 ⟨e, (lk_some hnd).1 hx⟩)

end

section
variable {K V : Type} {w : World} {b : Nat} {enc : K → Value} {ev : V → Value} {l : List (K × V)}
/-- The way through a map: S has been met, cnt entries are still to come. -/
def MapIt (w : World) (b r : Nat) (enc : K → Value) (ev : V → Value) (l S : List (K × V)) (cnt : Nat) : Prop :=
  ∃ (Z : Zl K V) (clock since c0 : Nat) (sn : Array Nat), w.heap[b]? = some (.map (Z.map (·.1)).toArray clock) ∧ l = Z.map (·.2) ∧ ZOk enc ev Z clock ∧
    w.heap[r]? = some (.mapIter (some b) since sn c0) ∧ (∀ z, z ∈ Z → z.1.born < since) ∧ since ≤ c0 ∧ since ≤ clock ∧ S.Nodup ∧ (∀ x, x ∈ S ↔ ∃ z, z ∈ Z ∧ sn.contains z.1.born = true ∧ z.2 = x) ∧ cnt = (leftOf (Z.map (·.1)).toArray sn).size
theorem MapIt.mapL {r cnt : Nat} {S : List (K × V)} (h : MapIt w b r enc ev l S cnt) : MapL w b enc ev l := by
  obtain ⟨Z, clock, since, c0, sn, hb, hl, z, _⟩ := h
  exact ⟨Z, clock, hb, hl, z⟩
theorem MapIt.kp {A : Nat → Prop} {w' : World} {r cnt : Nat} {S : List (K × V)} (h : MapIt w b r enc ev l S cnt) (hk : Kp A w w') (hb' : ¬ A b) (hr' : ¬ A r) : MapIt w' b r enc ev l S cnt := by
  obtain ⟨Z, clock, since, c0, sn, hb, hl, z, hr, rest⟩ := h
  exact ⟨Z, clock, since, c0, sn, by rw [hk.block b (heap_lt hb) hb']; exact hb, hl, z, by rw [hk.block r (heap_lt hr) hr']; exact hr, rest⟩
theorem MapIt.sub {r cnt : Nat} {S : List (K × V)} (h : MapIt w b r enc ev l S cnt) : ∀ x, x ∈ S → x ∈ l := by
  obtain ⟨Z, clock, since, c0, sn, hb, rfl, z, hr, _, _, _, _, hS, _⟩ := h
  intro x hx
  obtain ⟨y, hy, _, rfl⟩ := (hS x).1 hx
  exact List.mem_map.2 ⟨y, hy, rfl⟩
theorem MapIt.nodup {r cnt : Nat} {S : List (K × V)} (h : MapIt w b r enc ev l S cnt) : S.Nodup := by
  obtain ⟨Z, clock, since, c0, sn, hb, rfl, z, hr, _, _, _, h1, _⟩ := h
  exact h1
/-- 'range m'. -/
theorem MapL.range {P : Program} {t kt et : TypeId} (h : MapL w b enc ev l) (ht : P.underlying t = some (.map kt et)) :
    ∃ w' cnt, (∀ n, (Instr.range t (.map (some b))).run P (w.drewN n) = .ok (.pointer (some ⟨w.heap.size, 0, none⟩)) (w'.drewN n)) ∧ MapIt w' b w.heap.size enc ev l [] cnt ∧ Kp No w w' ∧ w'.heap.size = w.heap.size + 1 := by
  have hlt := h.lt
  obtain ⟨Z, clock, hb, rfl, z⟩ := h
  refine ⟨w.alloc (.mapIter (some b) clock #[] clock), _, fun n => ?_, ⟨Z, clock, clock, clock, #[], by rw [heap_alloc_old w _ hlt]; exact hb, rfl, z, heap_alloc_new w _, z.bl, Nat.le_refl _, Nat.le_refl _, List.nodup_nil, fun x => by simp, rfl⟩, Kp.alloc _, by simp⟩
  exact run_range_map (w.drewN n) t kt et b _ clock ht hb
/-- The step. -/
theorem MapIt.next {P : Program} {r cnt : Nat} {S : List (K × V)} (h : MapIt w b r enc ev l S cnt) (ty : TypeId) :
    (cnt = 0 ∧ (∀ x, x ∈ S ↔ x ∈ l) ∧ (Instr.next (.pointer (some ⟨r, 0, none⟩)) false ty).run P w = .ok (.tuple #[.bool false]) w) ∨
    ∃ k v w' cnt', (k, v) ∈ l ∧ (k, v) ∉ S ∧ (Instr.next (.pointer (some ⟨r, 0, none⟩)) false ty).run P w = .ok (.tuple #[.bool true, enc k, ev v]) w' ∧ MapIt w' b r enc ev l (S ++ [(k, v)]) cnt' ∧ cnt' < cnt ∧ Kp (fun x => x = r) w w' ∧ w'.heap.size = w.heap.size ∧
      (Instr.entry (.pointer (some ⟨r, 0, none⟩))).run P w' = .ok (.tuple #[enc k, ev v]) w' := by
  obtain ⟨Z, clock, since, c0, sn, hb, rfl, z, hr, hold, hsc, hsk, hSn, hS, rfl⟩ := h
  have hne : r ≠ b := by
    intro e
    rw [e, hb] at hr
    cases hr
  have hold' : ∀ x ∈ (Z.map (·.1)).toArray.toList, x.born < since := fun x hx => by
    obtain ⟨y, hy, rfl⟩ := List.mem_map.1 (show x ∈ Z.map (·.1) from hx)
    exact hold y hy
  have hbn : ((Z.map (·.1)).toArray.toList.map (·.born)).Nodup := by
    show ((Z.map (·.1)).map (·.born)).Nodup
    rw [List.map_map]; exact z.bn
  rcases run_next_at (P := P) w ty r b since c0 sn (Z.map (·.1)).toArray clock hr hb hold' hsc with ⟨h0, hrun⟩ | ⟨e, he, w1, hal, hrun⟩
  · refine .inl ⟨h0, fun x => ?_, hrun⟩
    rw [hS x]
    constructor
    · rintro ⟨y, hy, _, rfl⟩
      exact List.mem_map.2 ⟨y, hy, rfl⟩
    · intro hx
      obtain ⟨y, hy, rfl⟩ := List.mem_map.1 hx
      exact ⟨y, hy, all_seen _ sn h0 y.1 (List.mem_map.2 ⟨y, hy, rfl⟩), rfl⟩
  · obtain ⟨hem, hes⟩ := mem_left he
    obtain ⟨y, hy, rfl⟩ := List.mem_map.1 (show e ∈ Z.map (·.1) from hem)
    have inj : ∀ u, u ∈ Z → u.1.born = y.1.born → u = y := fun u hu hb => by
      obtain ⟨i, hi, rfl⟩ := List.getElem_of_mem hu
      obtain ⟨j, hj, rfl⟩ := List.getElem_of_mem hy
      obtain rfl : i = j := nodup_same z.bn (x := (Z[j]).1.born) (by rw [List.getElem?_map, List.getElem?_eq_getElem hi, ← hb]; rfl) (by rw [List.getElem?_map, List.getElem?_eq_getElem hj]; rfl)
      rfl
    have injk : ∀ u, u ∈ Z → u.2 = y.2 → u = y := fun u hu hb => by
      obtain ⟨i, hi, rfl⟩ := List.getElem_of_mem hu
      obtain ⟨j, hj, rfl⟩ := List.getElem_of_mem hy
      obtain rfl : i = j := nodup_same z.kn (x := (Z[j]).2.1) (by rw [List.getElem?_map, List.getElem?_eq_getElem hi, ← hb]; rfl) (by rw [List.getElem?_map, List.getElem?_eq_getElem hj]; rfl)
      rfl
    have hnS : y.2 ∉ S := fun hx => by
      obtain ⟨u, hu, hc, hue⟩ := (hS _).1 hx
      rw [injk u hu hue, hes] at hc
      cases hc
    have hr1 : w1.heap[r]? = some (.mapIter (some b) since sn c0) := by rcases hal with rfl | rfl <;> exact hr
    have hb1 : w1.heap[b]? = some (.map (Z.map (·.1)).toArray clock) := by rcases hal with rfl | rfl <;> exact hb
    have hset := heap_set (o' := .mapIter (some b) since (sn.push y.1.born) clock) hr1
    have hb' : (setBlock w1 r (.mapIter (some b) since (sn.push y.1.born) clock)).heap[b]? = some (.map (Z.map (·.1)).toArray clock) := (hset.2 b (fun e1 => hne e1.symm)).trans hb1
    rw [(z.kv y hy).1, (z.kv y hy).2] at hrun
    refine .inr ⟨y.2.1, y.2.2, _, _, List.mem_map.2 ⟨y, hy, rfl⟩, hnS, hrun, ⟨Z, clock, since, clock, sn.push y.1.born, hb', rfl, z, hset.1, hold, hsk, hsk, ?_, fun x => ?_, rfl⟩, left_shrinks _ sn y.1 he, ?_, ?_, ?_⟩
    · refine List.nodup_append.2 ⟨hSn, by simp, fun a ha c hc e => ?_⟩
      have : c = y.2 := by simpa using hc
      rw [e, this] at ha
      exact hnS ha
    · rw [List.mem_append, hS x, List.mem_singleton]
      constructor
      · rintro (⟨u, hu, hc, rfl⟩ | rfl)
        · exact ⟨u, hu, by rw [contains_push, hc]; rfl, rfl⟩
        · exact ⟨y, hy, by rw [contains_push, beq_self_eq_true, Bool.or_true], rfl⟩
      · rintro ⟨u, hu, hc, rfl⟩
        rw [contains_push, Bool.or_eq_true] at hc
        rcases hc with hc | hc
        · exact .inl ⟨u, hu, hc, rfl⟩
        · right
          rw [inj u hu (by simpa using hc)]
    · rcases hal with rfl | rfl <;> exact ⟨rfl, rfl, rfl, by simp [setBlock], fun i _ hi => hset.2 i (fun e1 => hi e1)⟩
    · rcases hal with rfl | rfl <;> simp [setBlock]
    · have := run_entry_at (P := P) _ r b since sn (Z.map (·.1)).toArray clock y.1 hset.1 hb' hem hbn
      rw [(z.kv y hy).1, (z.kv y hy).2] at this
      exact this
end

/-! ### pairs of numbers as keys -/
abbrev Pair := Int × Int
def pairV (x : Pair) : Value := .agg #[.int .i64 x.1, .int .i64 x.2]
theorem sameBits_pair (x : Pair) : Instr.sameBits 10000 (pairV x) (pairV x) = true := by
  rw [show (10000 : Nat) = 9999 + 1 from rfl]
  simp [pairV, Instr.sameBits]
theorem pair_eq (x y : Pair) : (x.1 == y.1 && x.2 == y.2) = decide (x = y) := by
  obtain ⟨a, b⟩ := x
  obtain ⟨a', b'⟩ := y
  rw [Bool.eq_iff_iff]
  simp
theorem keyKids : KeyOk Tryz.prog 129 pairV :=
  keyOk_struct (fs := Tryz.prog.fieldsOf 129) (by kernel_rfl) (fun k => ⟨_, rfl⟩) (fun w em k => by unfold pairV; kernel_rfl)
    (fun w a b => by
      rw [← pair_eq]
      unfold pairV
      by_cases h1 : a.1 = b.1 <;> by_cases h2 : a.2 = b.2 <;> simp [Op.equal, Op.maxDepth, h1, h2] <;> go_simp)
    sameBits_pair

end Go.Proofs.YtngbodmooddjbaaGreat

namespace Go.Proofs.YtngbodmooddjbaaGreat
open Go.RowKit

/-! ### places in an order -/
def posO (l : List Nat) (v : Nat) : Nat := (lvO l l.length).getD v 0
theorem posO_at {l : List Nat} (h : PermL l) {j : Nat} (hj : j < l.length) : posO l (l.getD j 0) = j := lvO_at h l.length (Nat.le_refl _) j hj
theorem posO_of {l : List Nat} (h : PermL l) {v : Nat} (hv : v < l.length) : posO l v < l.length ∧ l.getD (posO l v) 0 = v := by
  obtain ⟨j, hj, e⟩ := List.getElem_of_mem (h.has hv)
  have e' : l.getD j 0 = v := by rw [← e, List.getD_eq_getElem?_getD, List.getElem?_eq_getElem hj]; rfl
  have := posO_at h hj
  rw [e'] at this
  rw [this]
  exact ⟨hj, e'⟩
theorem posO_inj {l : List Nat} (h : PermL l) {u v : Nat} (hu : u < l.length) (hv : v < l.length) (e : posO l u = posO l v) : u = v := by
  rw [← (posO_of h hu).2, e, (posO_of h hv).2]
theorem posO_sw {l : List Nat} (h : PermL l) {k : Nat} (hk : k + 1 < l.length) {v : Nat} (hv : v < l.length) : posO (swO l k) v = if v = l.getD k 0 then k + 1 else if v = l.getD (k + 1) 0 then k else posO l v := by
  have hp := h.sw hk
  have hl := swO_len l k
  have key : ∀ j, j < l.length → (swO l k).getD j 0 = v → posO (swO l k) v = j := fun j hj e => by
    have := posO_at hp (j := j) (by rw [hl]; exact hj)
    rw [e] at this
    exact this
  have g := swO_get hk
  by_cases h1 : v = l.getD k 0
  · rw [if_pos h1]
    exact key _ hk (by rw [g, if_pos rfl, h1])
  · rw [if_neg h1]
    by_cases h2 : v = l.getD (k + 1) 0
    · rw [if_pos h2]
      exact key _ (by omega) (by rw [g, if_neg (by omega), if_pos rfl, h2])
    · rw [if_neg h2]
      obtain ⟨p1, p2⟩ := posO_of h hv
      exact key _ p1 (by rw [g, if_neg (fun e => h2 (by rw [← p2, e])), if_neg (fun e => h1 (by rw [← p2, e])), p2])

/-! ### functions -/
def iteB (v : Nat) (G H : Bfn) : Bfn := fun a => if a v then G a else H a
theorem updO_self (a : Nat → Bool) (v : Nat) : Mgr.upd a v (a v) = a := by
  funext u
  unfold Mgr.upd
  split
  · rename_i h; rw [h]
  · rfl
theorem updO_comm (a : Nat → Bool) {u v : Nat} (h : u ≠ v) (b c : Bool) : Mgr.upd (Mgr.upd a u b) v c = Mgr.upd (Mgr.upd a v c) u b := by
  funext w
  unfold Mgr.upd
  by_cases h1 : w = v
  · rw [if_pos h1, if_neg (fun e => h (by rw [← e, h1])), if_pos h1]
  · rw [if_neg h1]
    by_cases h2 : w = u
    · rw [if_pos h2, if_pos h2]
    · rw [if_neg h2, if_neg h2, if_neg h1]
def putN {α : Type} (f : Nat → α) (i : Nat) (x : α) : Nat → α := fun j => if j = i then x else f j
theorem putN_same {α : Type} (f : Nat → α) (i : Nat) (x : α) : putN f i x i = x := if_pos rfl
theorem putN_other {α : Type} (f : Nat → α) {i j : Nat} (x : α) (h : j ≠ i) : putN f i x j = f j := if_neg h
abbrev PTab := Nat → Pair → Option Nat
def updT (t : PTab) (v : Nat) (p : Pair) (x : Option Nat) : PTab := fun u q => if u = v ∧ q = p then x else t u q

/-! ### diagrams -/
structure Dg where
  order : List Nat
  len : Nat
  nd : Nat → Nd
  tab : PTab
  spare : List Nat
  rf : Nat → Int
  total : Nat
namespace Dg
def n (D : Dg) : Nat := D.order.length
def live (D : Dg) (i : Nat) : Prop := 2 ≤ i ∧ i < D.len ∧ i ∉ D.spare
instance (D : Dg) (i : Nat) : Decidable (D.live i) := inferInstanceAs (Decidable (_ ∧ _ ∧ _))
def ok (D : Dg) (i : Nat) : Prop := i < 2 ∨ D.live i
def liveL (D : Dg) : List Nat := (List.range D.len).filter fun i => decide (D.live i)
def kidsOf (nd : Nat → Nd) (l : List Nat) : List Nat := l.flatMap fun i => [(nd i).2.1, (nd i).2.2]
def kids (D : Dg) : List Nat := kidsOf D.nd D.liveL
def pos (D : Dg) (v : Nat) : Nat := posO D.order v
def dep (D : Dg) (k : Nat) (P : List Nat) (i : Nat) : Nat := if i < 2 then D.n else if i ∈ P then k else D.pos (D.nd i).1.toNat
def vr (D : Dg) (k : Nat) : Nat := D.order.getD k 0
def isY (D : Dg) (k : Nat) (P : List Nat) (c : Nat) : Prop := D.live c ∧ c ∉ P ∧ (D.nd c).1 = (D.vr k : Int) ∧ k + 1 < D.dep k P (D.nd c).2.1 ∧ k + 1 < D.dep k P (D.nd c).2.2
def kidP (D : Dg) (k : Nat) (P : List Nat) (c : Nat) : Prop := D.ok c ∧ c ∉ P ∧ (k + 1 < D.dep k P c ∨ D.isY k P c)
structure NdOk (D : Dg) (S : Nat → Bfn) (i : Nat) : Prop where
  v0 : 0 ≤ (D.nd i).1
  vn : (D.nd i).1.toNat < D.n
  lo : D.ok (D.nd i).2.1
  hi : D.ok (D.nd i).2.2
  ne : (D.nd i).2.1 ≠ (D.nd i).2.2
  s : S i = iteB (D.nd i).1.toNat (S (D.nd i).2.2) (S (D.nd i).2.1)
theorem mem_liveL {D : Dg} {i : Nat} : i ∈ D.liveL ↔ D.live i := by
  unfold liveL
  rw [List.mem_filter, List.mem_range]
  exact ⟨fun h => of_decide_eq_true h.2, fun h => ⟨h.2.1, decide_eq_true h⟩⟩
theorem liveL_nodup (D : Dg) : D.liveL.Nodup := List.nodup_range.sublist List.filter_sublist
theorem mem_kids {D : Dg} {c : Nat} : c ∈ D.kids ↔ ∃ i, D.live i ∧ (c = (D.nd i).2.1 ∨ c = (D.nd i).2.2) := by
  unfold kids kidsOf
  rw [List.mem_flatMap]
  constructor
  · rintro ⟨i, hi, hc⟩
    refine ⟨i, mem_liveL.1 hi, ?_⟩
    simpa using hc
  · rintro ⟨i, hi, hc⟩
    exact ⟨i, mem_liveL.2 hi, by simpa using hc⟩
theorem ok.live {D : Dg} {i : Nat} (h : D.ok i) (h2 : 2 ≤ i) : D.live i := h.resolve_left (by omega)
theorem dep_live {D : Dg} {k : Nat} {P : List Nat} {i : Nat} (h : D.live i) (hP : i ∉ P) : D.dep k P i = D.pos (D.nd i).1.toNat := by
  unfold dep
  rw [if_neg (by have := h.1; omega), if_neg hP]
theorem dep_P {D : Dg} {k : Nat} {P : List Nat} {i : Nat} (h : D.live i) (hP : i ∈ P) : D.dep k P i = k := by
  unfold dep
  rw [if_neg (by have := h.1; omega), if_pos hP]

structure Inv (D : Dg) (k : Nat) (P E : List Nat) (S : Nat → Bfn) (Fs : List Bfn) : Prop where
  perm : PermL D.order
  two : 2 ≤ D.len
  spn : D.spare.Nodup
  spr : ∀ i, i ∈ D.spare → 2 ≤ i ∧ i < D.len
  cv : (D.nd 0).1 = -1 ∧ (D.nd 1).1 = -1
  s0 : S 0 = fun _ => false
  s1 : S 1 = fun _ => true
  nd : ∀ i, D.live i → NdOk D S i
  inj : ∀ i j, D.ok i → D.ok j → S i = S j → i = j
  dp : ∀ i, D.live i → i ∉ P → D.pos (D.nd i).1.toNat < D.dep k P (D.nd i).2.1 ∧ D.pos (D.nd i).1.toNat < D.dep k P (D.nd i).2.2
  ind : ∀ i, D.ok i → ∀ a b : Nat → Bool, (∀ v, v < D.n → D.dep k P i ≤ D.pos v → a v = b v) → S i a = S i b
  pk : ∀ i, i ∈ P → k + 1 < D.n ∧ D.live i ∧ (D.nd i).1 = (D.vr (k + 1) : Int) ∧ D.kidP k P (D.nd i).2.1 ∧ D.kidP k P (D.nd i).2.2 ∧ (D.isY k P (D.nd i).2.1 ∨ D.isY k P (D.nd i).2.2)
  pn : P.Nodup
  tb : ∀ v, v < D.n → ∀ p i, D.tab v p = some i ↔ D.live i ∧ i ∉ P ∧ (D.nd i).1 = (v : Int) ∧ p = (((D.nd i).2.1 : Int), ((D.nd i).2.2 : Int))
  rf : ∀ i, D.live i → D.rf i = (((D.kids ++ E).count i : Nat) : Int)
  use : ∀ i, D.live i → i ∈ D.kids ++ E
  eok : ∀ i, i ∈ E → D.ok i
  tot : D.total = D.liveL.length
  rs : ∀ i, D.live i → ∃ F, F ∈ Fs ∧ Rst F (S i)
  rd : ∀ F, F ∈ Fs → Rd 0 D.n F
  len : D.len ≤ Fs.length * 3 ^ D.n + 2

section
variable {D : Dg} {k : Nat} {P E : List Nat} {S : Nat → Bfn} {Fs : List Bfn}
theorem Inv.k' (h : Inv D k [] E S Fs) (k' : Nat) : Inv D k' [] E S Fs :=
  have e : D.dep k' [] = D.dep k [] := by funext i; unfold dep; rw [if_neg (by simp : ¬ i ∈ ([] : List Nat)), if_neg (by simp : ¬ i ∈ ([] : List Nat))]
  { h with
    dp := by rw [e]; exact h.dp
    ind := by rw [e]; exact h.ind
    pk := fun i hi => by cases hi }
/-- A variable above: nothing depends on it. -/
theorem Inv.indep (h : Inv D k P E S Fs) {i : Nat} (hi : D.ok i) {v : Nat} (_hv : v < D.n) (hp : D.pos v < D.dep k P i) (a : Nat → Bool) (b : Bool) : S i (Mgr.upd a v b) = S i a :=
  h.ind i hi _ _ (fun u hu hd => Mgr.upd_other a v u b (fun e => by rw [e] at hd; omega))
theorem Inv.dep_le (h : Inv D k P E S Fs) {i : Nat} (hi : D.ok i) : D.dep k P i ≤ D.n := by
  unfold dep
  split
  · exact Nat.le_refl _
  · rename_i h2
    split
    · rename_i hP
      have := (h.pk i hP).1
      omega
    · have l := hi.live (by omega)
      exact Nat.le_of_lt (posO_of h.perm (h.nd i l).vn).1
theorem Inv.sub_ne (h : Inv D k P E S Fs) {i : Nat} (hl : D.live i) (e : ∀ a, S (D.nd i).2.1 a = S (D.nd i).2.2 a) : False :=
  (h.nd i hl).ne (h.inj _ _ (h.nd i hl).lo (h.nd i hl).hi (funext e))
/-- A node's two children, read off its function. -/
theorem Inv.lo_at (h : Inv D k P E S Fs) {i : Nat} (hl : D.live i) (hP : i ∉ P) (a : Nat → Bool) : S i (Mgr.upd a (D.nd i).1.toNat false) = S (D.nd i).2.1 a := by
  have m := h.nd i hl
  rw [m.s]
  unfold iteB
  rw [Mgr.upd_same, if_neg (by simp)]
  exact h.indep m.lo m.vn (h.dp i hl hP).1 a false
theorem Inv.hi_at (h : Inv D k P E S Fs) {i : Nat} (hl : D.live i) (hP : i ∉ P) (a : Nat → Bool) : S i (Mgr.upd a (D.nd i).1.toNat true) = S (D.nd i).2.2 a := by
  have m := h.nd i hl
  rw [m.s]
  unfold iteB
  rw [Mgr.upd_same, if_pos rfl]
  exact h.indep m.hi m.vn (h.dp i hl hP).2 a true
/-- A node that is not waiting depends on its variable. -/
theorem Inv.depends (h : Inv D k P E S Fs) {i : Nat} (hl : D.live i) (hP : i ∉ P) (e : ∀ a b, S i (Mgr.upd a (D.nd i).1.toNat b) = S i a) : False :=
  h.sub_ne hl (fun a => by rw [← h.lo_at hl hP, ← h.hi_at hl hP, e, e])
theorem Inv.vr_lt (h : Inv D k P E S Fs) {j : Nat} (hj : j < D.n) : D.vr j < D.n := h.perm.lt hj
theorem Inv.pos_vr (h : Inv D k P E S Fs) {j : Nat} (hj : j < D.n) : D.pos (D.vr j) = j := posO_at h.perm hj
theorem Inv.xy (h : Inv D k P E S Fs) (hk : k + 1 < D.n) : D.vr (k + 1) ≠ D.vr k := fun e => by
  have h1 := h.pos_vr hk
  have h2 := h.pos_vr (show k < D.n by omega)
  rw [e] at h1
  omega
theorem Inv.isY_dep (h : Inv D k P E S Fs) (hk : k + 1 < D.n) {c : Nat} (y : D.isY k P c) : D.dep k P c = k := by
  rw [dep_live y.1 y.2.1, y.2.2.1, Int.toNat_natCast, h.pos_vr (by omega)]
/-- The children of what is waiting do not depend on its variable. -/
theorem Inv.kid_indep (h : Inv D k P E S Fs) (hk : k + 1 < D.n) {c : Nat} (hc : D.kidP k P c) (a : Nat → Bool) (b : Bool) : S c (Mgr.upd a (D.vr (k + 1)) b) = S c a := by
  obtain ⟨ho, hP, hd | y⟩ := hc
  · exact h.indep ho (h.vr_lt hk) (by rw [h.pos_vr hk]; exact hd) a b
  · have m := h.nd c y.1
    have vy : (D.nd c).1.toNat = D.vr k := by rw [y.2.2.1, Int.toNat_natCast]
    rw [m.s]
    unfold iteB
    rw [vy, Mgr.upd_other a _ _ b (fun e => h.xy hk e.symm), h.indep m.lo (h.vr_lt hk) (by rw [h.pos_vr hk]; exact y.2.2.2.1) a b, h.indep m.hi (h.vr_lt hk) (by rw [h.pos_vr hk]; exact y.2.2.2.2) a b]
theorem Inv.P_lo (h : Inv D k P E S Fs) {i : Nat} (hi : i ∈ P) (a : Nat → Bool) : S i (Mgr.upd a (D.vr (k + 1)) false) = S (D.nd i).2.1 a := by
  obtain ⟨hk, hl, hv, h1, h2, _⟩ := h.pk i hi
  rw [(h.nd i hl).s]
  unfold iteB
  rw [hv, Int.toNat_natCast, Mgr.upd_same, if_neg (by simp)]
  exact h.kid_indep hk h1 a false
theorem Inv.P_hi (h : Inv D k P E S Fs) {i : Nat} (hi : i ∈ P) (a : Nat → Bool) : S i (Mgr.upd a (D.vr (k + 1)) true) = S (D.nd i).2.2 a := by
  obtain ⟨hk, hl, hv, h1, h2, _⟩ := h.pk i hi
  rw [(h.nd i hl).s]
  unfold iteB
  rw [hv, Int.toNat_natCast, Mgr.upd_same, if_pos rfl]
  exact h.kid_indep hk h2 a true
/-- What is waiting depends on the variable above it. -/
theorem Inv.P_dep (h : Inv D k P E S Fs) {i : Nat} (hi : i ∈ P) (e : ∀ a b, S i (Mgr.upd a (D.vr k) b) = S i a) : False := by
  obtain ⟨hk, hl, hv, h1, h2, hy⟩ := h.pk i hi
  have xy := h.xy hk
  rcases hy with y | y
  · refine h.depends y.1 y.2.1 (fun a b => ?_)
    rw [y.2.2.1, Int.toNat_natCast, ← h.P_lo hi, ← h.P_lo hi, updO_comm a (fun e => xy e.symm), e]
  · refine h.depends y.1 y.2.1 (fun a b => ?_)
    rw [y.2.2.1, Int.toNat_natCast, ← h.P_hi hi, ← h.P_hi hi, updO_comm a (fun e => xy e.symm), e]
/-- The function of a node with the second variable is found only where it stands. -/
theorem Inv.uniq (h : Inv D k P E S Fs) (hk : k + 1 < D.n) {lo hi : Nat} (hl : D.ok lo) (hh : D.ok hi) (ne : lo ≠ hi) (dl : k + 1 < D.dep k P lo) (dh : k + 1 < D.dep k P hi) {j : Nat} (hj : D.ok j)
    (e : S j = iteB (D.vr (k + 1)) (S hi) (S lo)) : D.tab (D.vr (k + 1)) ((lo : Int), (hi : Int)) = some j := by
  have px := h.pos_vr hk
  have vx := h.vr_lt hk
  have gl : ∀ a, S j (Mgr.upd a (D.vr (k + 1)) false) = S lo a := fun a => by
    rw [e]; unfold iteB
    rw [Mgr.upd_same, if_neg (by simp)]
    exact h.indep hl vx (by rw [px]; exact dl) a false
  have gh : ∀ a, S j (Mgr.upd a (D.vr (k + 1)) true) = S hi a := fun a => by
    rw [e]; unfold iteB
    rw [Mgr.upd_same, if_pos rfl]
    exact h.indep hh vx (by rw [px]; exact dh) a true
  have nind : (∀ a b, S j (Mgr.upd a (D.vr (k + 1)) b) = S j a) → False := fun i => ne (h.inj _ _ hl hh (funext fun a => by rw [← gl, ← gh, i, i]))
  rcases hj with h2 | hjl
  · exfalso
    have : j = 0 ∨ j = 1 := by omega
    rcases this with rfl | rfl
    · exact nind (fun a b => by rw [h.s0])
    · exact nind (fun a b => by rw [h.s1])
  have m := h.nd j hjl
  by_cases hP : j ∈ P
  · exfalso
    obtain ⟨_, _, hv, k1, k2, hy⟩ := h.pk j hP
    have e1 : (D.nd j).2.1 = lo := h.inj _ _ m.lo hl (funext fun a => by rw [← h.P_lo hP, gl])
    have e2 : (D.nd j).2.2 = hi := h.inj _ _ m.hi hh (funext fun a => by rw [← h.P_hi hP, gh])
    rw [e1, e2] at hy
    rcases hy with y | y
    · have := h.isY_dep hk y; omega
    · have := h.isY_dep hk y; omega
  · have dj := dep_live (k := k) hjl hP
    rcases Nat.lt_trichotomy (D.pos (D.nd j).1.toNat) (k + 1) with c | c | c
    · exfalso
      refine h.depends hjl hP (fun a b => ?_)
      rw [e]
      unfold iteB
      rw [Mgr.upd_other a _ _ b (fun e => by rw [← e, px] at c; omega), h.indep hl m.vn (by omega) a b, h.indep hh m.vn (by omega) a b]
    · have ev : (D.nd j).1.toNat = D.vr (k + 1) := posO_inj h.perm m.vn vx (show D.pos _ = D.pos _ by rw [c, px])
      have e1 : (D.nd j).2.1 = lo := h.inj _ _ m.lo hl (funext fun a => by rw [← h.lo_at hjl hP, ev, gl])
      have e2 : (D.nd j).2.2 = hi := h.inj _ _ m.hi hh (funext fun a => by rw [← h.hi_at hjl hP, ev, gh])
      rw [h.tb _ vx]
      refine ⟨hjl, hP, ?_, by rw [e1, e2]⟩
      have := m.v0
      omega
    · exact (nind (fun a b => h.indep (.inr hjl) vx (by omega) a b)).elim

/-! ### references -/
def inc (D : Dg) (i : Nat) : Dg := { D with rf := putN D.rf i (wrap64 (D.rf i + 1)) }
def dec (D : Dg) (i : Nat) : Dg := { D with rf := putN D.rf i (D.rf i - 1) }
theorem kids_len (D : Dg) : D.kids.length = 2 * D.liveL.length := by
  unfold kids
  generalize D.liveL = l
  induction l with
  | nil => rfl
  | cons x l ih =>
    show ([(D.nd x).2.1, (D.nd x).2.2] ++ kidsOf D.nd l).length = _
    rw [List.length_append, ih, List.length_cons, List.length_cons]
    simp
    omega
theorem Inv.inc (h : Inv D k P E S Fs) {i : Nat} (hi : D.ok i) (hb : D.total ≤ 1000000000000 ∧ E.length ≤ 1000000000000) : Inv (D.inc i) k P (i :: E) S Fs :=
  { perm := h.perm, two := h.two, spn := h.spn, spr := h.spr, cv := h.cv, s0 := h.s0, s1 := h.s1
    nd := fun j hj => ⟨(h.nd j hj).v0, (h.nd j hj).vn, (h.nd j hj).lo, (h.nd j hj).hi, (h.nd j hj).ne, (h.nd j hj).s⟩
    inj := h.inj, dp := h.dp, ind := h.ind, pk := h.pk, pn := h.pn, tb := h.tb
    rf := fun j hj => by
      have e : (D.inc i).kids = D.kids := rfl
      have h1 := h.rf j hj
      have h2 := List.count_le_length (a := j) (l := D.kids ++ E)
      rw [List.length_append, D.kids_len, ← h.tot] at h2
      rw [List.count_append] at h1 h2
      rw [e, List.count_append, List.count_cons]
      show putN D.rf i (wrap64 (D.rf i + 1)) j = _
      by_cases c : j = i
      · subst c
        rw [putN_same, h1, beq_self_eq_true, if_pos rfl]
        rw [show wrap64 _ = _ from (by unfold wrap64; omega : wrap64 ((((D.kids).count j + E.count j : Nat) : Int) + 1) = (((D.kids).count j + E.count j : Nat) : Int) + 1)]
        omega
      · rw [putN_other _ _ c, h1, if_neg (by simpa using fun e => c e.symm)]
        omega
    use := fun j hj => by
      rcases List.mem_append.1 (h.use j hj) with c | c
      · exact List.mem_append.2 (.inl c)
      · exact List.mem_append.2 (.inr (.tail _ c))
    eok := fun j hj => by
      rcases List.mem_cons.1 hj with rfl | c
      · exact hi
      · exact h.eok j c
    tot := h.tot, rs := h.rs, rd := h.rd, len := h.len }
theorem Inv.dec {i : Nat} (h : Inv D k P (i :: E) S Fs) (hu : i ∈ D.kids ++ E) : Inv (D.dec i) k P E S Fs :=
  { perm := h.perm, two := h.two, spn := h.spn, spr := h.spr, cv := h.cv, s0 := h.s0, s1 := h.s1
    nd := fun j hj => ⟨(h.nd j hj).v0, (h.nd j hj).vn, (h.nd j hj).lo, (h.nd j hj).hi, (h.nd j hj).ne, (h.nd j hj).s⟩
    inj := h.inj, dp := h.dp, ind := h.ind, pk := h.pk, pn := h.pn, tb := h.tb
    rf := fun j hj => by
      have e : (D.dec i).kids = D.kids := rfl
      have h1 := h.rf j hj
      rw [List.count_append, List.count_cons] at h1
      rw [e, List.count_append]
      show putN D.rf i (D.rf i - 1) j = _
      by_cases c : j = i
      · subst c
        rw [beq_self_eq_true, if_pos rfl] at h1
        rw [putN_same, h1]
        omega
      · rw [if_neg (by simpa using fun e => c e.symm)] at h1
        rw [putN_other _ _ c, h1]
        omega
    use := fun j hj => by
      rcases List.mem_append.1 (h.use j hj) with c | c
      · exact List.mem_append.2 (.inl c)
      · rcases List.mem_cons.1 c with rfl | c
        · exact hu
        · exact List.mem_append.2 (.inr c)
    eok := fun j hj => h.eok j (.tail _ hj)
    tot := h.tot, rs := h.rs, rd := h.rd, len := h.len }
/-- A reference to a constant is forgotten. -/
theorem Inv.forget {i : Nat} (h : Inv D k P (i :: E) S Fs) (h2 : i < 2) : Inv D k P E S Fs :=
  have ne : ∀ {j}, D.live j → j ≠ i := fun hj e => by have := hj.1; omega
  { perm := h.perm, two := h.two, spn := h.spn, spr := h.spr, cv := h.cv, s0 := h.s0, s1 := h.s1, nd := h.nd
    inj := h.inj, dp := h.dp, ind := h.ind, pk := h.pk, pn := h.pn, tb := h.tb
    rf := fun j hj => by
      have h1 := h.rf j hj
      rw [List.count_append, List.count_cons, if_neg (by simpa using fun e => ne hj e.symm)] at h1
      rw [List.count_append, h1]
      rfl
    use := fun j hj => by
      rcases List.mem_append.1 (h.use j hj) with c | c
      · exact List.mem_append.2 (.inl c)
      · exact List.mem_append.2 (.inr ((List.mem_cons.1 c).resolve_left (ne hj)))
    eok := fun j hj => h.eok j (.tail _ hj)
    tot := h.tot, rs := h.rs, rd := h.rd, len := h.len }

/-! ### a cell is taken away -/
def free (D : Dg) (i : Nat) : Dg :=
  { D with rf := putN D.rf i 0, spare := D.spare ++ [i], tab := updT D.tab (D.nd i).1.toNat (((D.nd i).2.1 : Int), ((D.nd i).2.2 : Int)) none, total := D.total - 1 }
theorem free_live {i j : Nat} : (D.free i).live j ↔ D.live j ∧ j ≠ i := by
  show (2 ≤ j ∧ j < D.len ∧ j ∉ D.spare ++ [i]) ↔ (2 ≤ j ∧ j < D.len ∧ j ∉ D.spare) ∧ j ≠ i
  rw [List.mem_append, List.mem_singleton]
  constructor
  · rintro ⟨a, b, c⟩
    exact ⟨⟨a, b, fun x => c (.inl x)⟩, fun x => c (.inr x)⟩
  · rintro ⟨⟨a, b, c⟩, d⟩
    exact ⟨a, b, fun x => x.elim c d⟩
theorem kidsOf_perm (nd : Nat → Nd) {l m : List Nat} (h : l.Perm m) : (kidsOf nd l).Perm (kidsOf nd m) := h.flatMap_right _
theorem kidsOf_congr {nd nd' : Nat → Nd} : ∀ {l : List Nat}, (∀ j, j ∈ l → nd j = nd' j) → kidsOf nd l = kidsOf nd' l
  | [], _ => rfl
  | x :: l, h => by
    show [(nd x).2.1, (nd x).2.2] ++ kidsOf nd l = [(nd' x).2.1, (nd' x).2.2] ++ kidsOf nd' l
    rw [h x (.head _), kidsOf_congr (fun j hj => h j (.tail _ hj))]
theorem free_liveL {i : Nat} (hl : D.live i) : D.liveL.Perm (i :: (D.free i).liveL) := by
  refine (List.perm_ext_iff_of_nodup D.liveL_nodup (List.nodup_cons.2 ⟨fun h => ?_, (D.free i).liveL_nodup⟩)).2 (fun j => ?_)
  · exact (free_live.1 (mem_liveL.1 h)).2 rfl
  · rw [List.mem_cons, mem_liveL, mem_liveL, free_live]
    by_cases e : j = i
    · subst e; exact ⟨fun _ => .inl rfl, fun _ => hl⟩
    · exact ⟨fun x => .inr ⟨x, e⟩, fun x => (x.resolve_left e).1⟩
theorem free_kids {i : Nat} (hl : D.live i) : D.kids.Perm ((D.nd i).2.1 :: (D.nd i).2.2 :: (D.free i).kids) := kidsOf_perm D.nd (free_liveL hl)
theorem Inv.free {i : Nat} (h : Inv D k P (i :: E) S Fs) (hl : D.live i) (hP : i ∉ P) (h1 : D.rf i = 1) : Inv (D.free i) k P ((D.nd i).2.1 :: (D.nd i).2.2 :: E) S Fs := by
  have m := h.nd i hl
  have hc : (D.kids ++ E).count i = 0 := by
    have := h.rf i hl
    rw [List.count_append, List.count_cons, beq_self_eq_true, if_pos rfl] at this
    rw [List.count_append]
    omega
  have hnot : i ∉ D.kids ++ E := List.count_eq_zero.1 hc
  have nk : i ∉ D.kids := fun x => hnot (List.mem_append.2 (.inl x))
  have nE : i ∉ E := fun x => hnot (List.mem_append.2 (.inr x))
  have okk : ∀ {c}, D.ok c → c ≠ i → (D.free i).ok c := fun ho hn => ho.imp id (fun x => free_live.2 ⟨x, hn⟩)
  have okb : ∀ {c}, (D.free i).ok c → D.ok c ∧ c ≠ i := fun ho => by
    rcases ho with x | x
    · exact ⟨.inl x, by have := hl.1; omega⟩
    · exact ⟨.inr (free_live.1 x).1, (free_live.1 x).2⟩
  have kn : ∀ {j}, D.live j → (D.nd j).2.1 ≠ i ∧ (D.nd j).2.2 ≠ i := fun hj => ⟨fun e => nk (mem_kids.2 ⟨_, hj, .inl e.symm⟩), fun e => nk (mem_kids.2 ⟨_, hj, .inr e.symm⟩)⟩
  have tot1 := (free_liveL hl).length_eq
  have isy : ∀ {c}, D.isY k P c → c ≠ i → (D.free i).isY k P c := fun y hn => ⟨free_live.2 ⟨y.1, hn⟩, y.2⟩
  have kdp : ∀ {c}, D.kidP k P c → c ≠ i → (D.free i).kidP k P c := fun y hn => ⟨okk y.1 hn, y.2.1, y.2.2.imp id (fun z => isy z hn)⟩
  have pq : (D.kids ++ i :: E).Perm (i :: ((D.free i).kids ++ (D.nd i).2.1 :: (D.nd i).2.2 :: E)) := by
    refine ((free_kids hl).append_right _).trans ?_
    refine (List.perm_iff_count).2 (fun z => ?_)
    simp only [List.cons_append, List.count_cons, List.count_append]
    omega
  exact
  { perm := h.perm, two := h.two
    spn := List.nodup_append.2 ⟨h.spn, by simp, fun a ha b hb e => by rw [List.mem_singleton.1 hb] at e; exact hl.2.2 (e ▸ ha)⟩
    spr := fun j hj => by
      rcases List.mem_append.1 hj with x | x
      · exact h.spr j x
      · rw [List.mem_singleton.1 x]; exact ⟨hl.1, hl.2.1⟩
    cv := h.cv, s0 := h.s0, s1 := h.s1
    nd := fun j hj => by
      have a := h.nd j (free_live.1 hj).1
      exact ⟨a.v0, a.vn, okk a.lo (kn (free_live.1 hj).1).1, okk a.hi (kn (free_live.1 hj).1).2, a.ne, a.s⟩
    inj := fun a b ha hb e => h.inj a b (okb ha).1 (okb hb).1 e
    dp := fun j hj hp => h.dp j (free_live.1 hj).1 hp
    ind := fun j hj => h.ind j (okb hj).1
    pk := fun j hj => by
      obtain ⟨a1, a2, a3, a4, a5, a6⟩ := h.pk j hj
      have n1 := kn a2
      exact ⟨a1, free_live.2 ⟨a2, fun e => hP (e ▸ hj)⟩, a3, kdp a4 n1.1, kdp a5 n1.2, a6.imp (fun y => isy y n1.1) (fun y => isy y n1.2)⟩
    pn := h.pn
    tb := fun v hv p j => by
      show updT D.tab (D.nd i).1.toNat (((D.nd i).2.1 : Int), ((D.nd i).2.2 : Int)) none v p = some j ↔ (D.free i).live j ∧ j ∉ P ∧ (D.nd j).1 = (v : Int) ∧ p = (((D.nd j).2.1 : Int), ((D.nd j).2.2 : Int))
      rw [free_live]
      unfold updT
      by_cases c : v = (D.nd i).1.toNat ∧ p = (((D.nd i).2.1 : Int), ((D.nd i).2.2 : Int))
      · rw [if_pos c]
        refine ⟨fun x => (by cases x), fun ⟨⟨a1, a2⟩, a3, a4, a5⟩ => (a2 ?_).elim⟩
        have b1 := h.nd j a1
        refine h.inj j i (.inr a1) (.inr hl) ?_
        rw [b1.s, m.s]
        have e1 : (D.nd j).1.toNat = (D.nd i).1.toNat := by rw [a4, ← c.1]; rfl
        have e2 := c.2.symm.trans a5
        rw [Prod.mk.injEq] at e2
        rw [e1, show (D.nd j).2.1 = (D.nd i).2.1 by have := e2.1; omega, show (D.nd j).2.2 = (D.nd i).2.2 by have := e2.2; omega]
      · rw [if_neg c, h.tb v hv]
        refine ⟨fun ⟨a1, a3, a4, a5⟩ => ⟨⟨a1, fun e => c ?_⟩, a3, a4, a5⟩, fun ⟨⟨a1, _⟩, a3⟩ => ⟨a1, a3⟩⟩
        rw [e] at a4 a5
        exact ⟨by rw [a4]; rfl, a5⟩
    rf := fun j hj => by
      obtain ⟨a1, a2⟩ := free_live.1 hj
      show putN D.rf i 0 j = _
      rw [putN_other _ _ a2, h.rf j a1, pq.count_eq, List.count_cons, if_neg (by simpa using fun e => a2 e.symm)]
      rfl
    use := fun j hj => by
      obtain ⟨a1, a2⟩ := free_live.1 hj
      exact (List.mem_cons.1 (pq.mem_iff.1 (h.use j a1))).resolve_left a2
    eok := fun j hj => by
      rcases List.mem_cons.1 hj with rfl | hj
      · exact okk m.lo (kn hl).1
      rcases List.mem_cons.1 hj with rfl | hj
      · exact okk m.hi (kn hl).2
      · exact okk (h.eok j (.tail _ hj)) (fun e => nE (e ▸ hj))
    tot := by
      have := h.tot
      rw [List.length_cons] at tot1
      show D.total - 1 = _
      omega
    rs := fun j hj => h.rs j (free_live.1 hj).1
    rd := h.rd, len := h.len }
end
end Dg
end Go.Proofs.YtngbodmooddjbaaGreat

namespace Go.Proofs.YtngbodmooddjbaaGreat
open Go.RowKit

/-- As many indices as there are functions. -/
theorem listed_len {Φ : Bfn → Prop} {N : Nat} (h : Listed Φ N) (S : Nat → Bfn) : ∀ (l : List Nat), l.Nodup → (∀ i j, i ∈ l → j ∈ l → S i = S j → i = j) → (∀ i, i ∈ l → Φ (S i)) → l.length ≤ N := by
  intro l hn hi hp
  obtain ⟨e, he⟩ := h
  have g : ∀ i, ∃ j, i ∈ l → j < N ∧ e j = S i := fun i => by
    by_cases c : i ∈ l
    · obtain ⟨j, hj, ej⟩ := he _ (hp i c)
      exact ⟨j, fun _ => ⟨hj, ej⟩⟩
    · exact ⟨0, fun x => (c x).elim⟩
  have key : ∀ m : List Nat, m.Nodup → (∀ i, i ∈ m → i ∈ l) → (m.map fun i => (g i).choose).Nodup := by
    intro m
    induction m with
    | nil => intro _ _; exact List.nodup_nil
    | cons x m ih =>
      intro hm hs
      rw [List.nodup_cons] at hm
      rw [List.map_cons, List.nodup_cons]
      refine ⟨fun hx => ?_, ih hm.2 (fun i hi => hs i (.tail _ hi))⟩
      obtain ⟨y, hy, ey⟩ := List.mem_map.1 hx
      have hxl := hs x (.head _)
      have hyl := hs y (.tail _ hy)
      have e1 := ((g x).choose_spec hxl).2
      have e2 := ((g y).choose_spec hyl).2
      have : x = y := hi x y hxl hyl (by rw [← e1, ← e2, ey])
      exact hm.1 (this ▸ hy)
  have h1 := Mgr.nodup_length (l.map fun i => (g i).choose) (List.range N) (key l hn (fun _ x => x)) (fun j hj => by
    obtain ⟨i, hi, rfl⟩ := List.mem_map.1 hj
    exact List.mem_range.2 ((g i).choose_spec hi).1)
  rw [List.length_map, List.length_range] at h1
  exact h1

namespace Dg
section
variable {D : Dg} {k : Nat} {P E : List Nat} {S : Nat → Bfn} {Fs : List Bfn}
theorem total_bound {D : Dg} {S : Nat → Bfn} {Fs : List Bfn} (inj : ∀ i j, D.ok i → D.ok j → S i = S j → i = j) (rs : ∀ i, D.live i → ∃ F, F ∈ Fs ∧ Rst F (S i)) (rd : ∀ F, F ∈ Fs → Rd 0 D.n F) : D.liveL.length ≤ Fs.length * 3 ^ D.n :=
  listed_len (Listed.rsts Fs rd) S D.liveL D.liveL_nodup (fun i j hi hj e => inj i j (.inr (mem_liveL.1 hi)) (.inr (mem_liveL.1 hj)) e) (fun i hi => rs i (mem_liveL.1 hi))
theorem Inv.total_le (h : Inv D k P E S Fs) : D.total ≤ Fs.length * 3 ^ D.n := by rw [h.tot]; exact total_bound h.inj h.rs h.rd
theorem Inv.rf_le (h : Inv D k P E S Fs) {i : Nat} (hi : D.live i) : 0 ≤ D.rf i ∧ D.rf i ≤ ((2 * D.total + E.length : Nat) : Int) := by
  have h1 := h.rf i hi
  have h2 := List.count_le_length (a := i) (l := D.kids ++ E)
  rw [List.length_append, D.kids_len, ← h.tot] at h2
  omega
theorem Inv.rf_pos (h : Inv D k P E S Fs) {i : Nat} (hi : D.live i) : 1 ≤ D.rf i := by
  have h1 := h.rf i hi
  have h2 := List.count_pos_iff.2 (h.use i hi)
  omega

/-! ### a cell is made -/
/-- What stands in a new cell r; l and s: the length and the spare cells behind it. -/
def cellN (D : Dg) (k r lo hi l : Nat) (s : List Nat) : Dg :=
  { D with nd := putN D.nd r ((D.vr (k + 1) : Int), lo, hi), rf := putN D.rf r 1, len := l, spare := s, tab := updT D.tab (D.vr (k + 1)) ((lo : Int), (hi : Int)) (some r), total := D.total + 1 }
structure MkOk (D : Dg) (r l : Nat) (s : List Nat) : Prop where
  r2 : 2 ≤ r
  rn : ¬ D.live r
  lv : ∀ j, (j < l ∧ j ∉ s) ↔ (j < D.len ∧ j ∉ D.spare) ∨ j = r
  ll : D.len ≤ l
  sn : s.Nodup
  sr : ∀ j, j ∈ s → 2 ≤ j ∧ j < l
  gr : l = D.len ∨ (l = D.len + 1 ∧ D.spare = [])
theorem MkOk.spare {D : Dg} {S : Nat → Bfn} {Fs : List Bfn} {k : Nat} {P E : List Nat} (h : Inv D k P E S Fs) {r : Nat} (e : D.spare.getLast? = some r) : MkOk D r D.len D.spare.dropLast := by
  have hs : D.spare.dropLast ++ [r] = D.spare := by
    obtain ⟨ys, hy⟩ := List.getLast?_eq_some_iff.1 e
    rw [hy, List.dropLast_concat]
  have hn := h.spn
  rw [← hs, List.nodup_append] at hn
  have hr := h.spr r (by rw [← hs]; exact List.mem_append.2 (.inr (List.mem_singleton.2 rfl)))
  have nr : r ∉ D.spare.dropLast := fun x => hn.2.2 r x r (List.mem_singleton.2 rfl) rfl
  refine ⟨hr.1, fun x => x.2.2 (by rw [← hs]; exact List.mem_append.2 (.inr (List.mem_singleton.2 rfl))), fun j => ?_, Nat.le_refl _, hn.1, fun j hj => h.spr j (by rw [← hs]; exact List.mem_append.2 (.inl hj)), .inl rfl⟩
  by_cases c : j = r
  · subst c; exact ⟨fun _ => .inr rfl, fun _ => ⟨hr.2, nr⟩⟩
  · constructor
    · rintro ⟨a, b⟩
      refine .inl ⟨a, fun x => ?_⟩
      rw [← hs, List.mem_append, List.mem_singleton] at x
      exact x.elim b c
    · rintro (⟨a, b⟩ | a)
      · exact ⟨a, fun x => b (by rw [← hs]; exact List.mem_append.2 (.inl x))⟩
      · exact (c a).elim
theorem MkOk.grow {D : Dg} {S : Nat → Bfn} {Fs : List Bfn} {k : Nat} {P E : List Nat} (h : Inv D k P E S Fs) (e : D.spare = []) : MkOk D D.len (D.len + 1) D.spare := by
  refine ⟨h.two, fun x => by have := x.2.1; omega, fun j => ?_, by omega, h.spn, fun j hj => by have := h.spr j hj; omega, .inr ⟨rfl, e⟩⟩
  rw [e]
  constructor
  · rintro ⟨a, _⟩
    by_cases c : j = D.len
    · exact .inr c
    · exact .inl ⟨by omega, by simp⟩
  · rintro (⟨a, _⟩ | a)
    · exact ⟨by omega, by simp⟩
    · exact ⟨by omega, by simp⟩
theorem mk_live {r lo hi l : Nat} {s : List Nat} (m : MkOk D r l s) {j : Nat} : (D.cellN k r lo hi l s).live j ↔ D.live j ∨ j = r := by
  show (2 ≤ j ∧ j < l ∧ j ∉ s) ↔ (2 ≤ j ∧ j < D.len ∧ j ∉ D.spare) ∨ j = r
  have := m.lv j
  have := m.r2
  constructor
  · rintro ⟨a, b⟩
    exact ((m.lv j).1 b).imp (fun x => ⟨a, x⟩) id
  · rintro (⟨a, b⟩ | b)
    · exact ⟨a, (m.lv j).2 (.inl b)⟩
    · exact ⟨by omega, (m.lv j).2 (.inr b)⟩
theorem mk_liveL {r lo hi l : Nat} {s : List Nat} (m : MkOk D r l s) : (D.cellN k r lo hi l s).liveL.Perm (r :: D.liveL) := by
  refine (List.perm_ext_iff_of_nodup (liveL_nodup _) (List.nodup_cons.2 ⟨fun h => m.rn (mem_liveL.1 h), D.liveL_nodup⟩)).2 (fun j => ?_)
  rw [List.mem_cons, mem_liveL, mem_liveL, mk_live m]
  exact or_comm
theorem Inv.cellN {r lo hi l : Nat} {s : List Nat} (h : Inv D k P (hi :: lo :: E) S Fs) (m : MkOk D r l s) (hk : k + 1 < D.n) (ne : lo ≠ hi) (dl : k + 1 < D.dep k P lo) (dh : k + 1 < D.dep k P hi)
    (ht : D.tab (D.vr (k + 1)) ((lo : Int), (hi : Int)) = none) {G : Bfn} (hG : G = iteB (D.vr (k + 1)) (S hi) (S lo)) (hR : ∃ F, F ∈ Fs ∧ Rst F G) :
    Inv (D.cellN k r lo hi l s) k P (r :: E) (putN S r G) Fs ∧ (D.cellN k r lo hi l s).dep k P r = k + 1 := by
  have ol : D.ok lo := h.eok lo (.tail _ (.head _))
  have oh : D.ok hi := h.eok hi (.head _)
  have px := h.pos_vr hk
  have vx := h.vr_lt hk
  have r2 := m.r2
  have okn : ∀ {c}, D.ok c → c ≠ r := fun ho e => by
    rcases ho with x | x
    · omega
    · exact m.rn (e ▸ x)
  have rP : r ∉ P := fun x => m.rn (h.pk r x).2.1
  have okk : ∀ {c}, D.ok c → (D.cellN k r lo hi l s).ok c := fun ho => ho.imp id (fun x => (mk_live m).2 (.inl x))
  have okb : ∀ {c}, (D.cellN k r lo hi l s).ok c → D.ok c ∨ c = r := fun ho => by
    rcases ho with x | x
    · exact .inl (.inl x)
    · exact ((mk_live m).1 x).imp .inr id
  have ndo : ∀ {c}, c ≠ r → (D.cellN k r lo hi l s).nd c = D.nd c := fun hn => putN_other _ _ hn
  have ndr : (D.cellN k r lo hi l s).nd r = ((D.vr (k + 1) : Int), lo, hi) := putN_same _ _ _
  have So : ∀ {c}, c ≠ r → putN S r G c = S c := fun hn => putN_other _ _ hn
  have Sr : putN S r G r = G := putN_same _ _ _
  have dpo : ∀ {c}, c ≠ r → (D.cellN k r lo hi l s).dep k P c = D.dep k P c := fun hn => by
    unfold dep
    rw [ndo hn]; rfl
  have dpr : (D.cellN k r lo hi l s).dep k P r = k + 1 := by
    rw [dep_live ((mk_live m).2 (.inr rfl)) rP, ndr]
    show D.pos (Int.toNat (D.vr (k + 1) : Int)) = k + 1
    rw [Int.toNat_natCast, px]
  have nlo := okn ol
  have nhi := okn oh
  have isy : ∀ {c}, D.isY k P c → (D.cellN k r lo hi l s).isY k P c := fun {c} y => by
    have nc := okn (.inr y.1)
    have mm := h.nd c y.1
    refine ⟨(mk_live m).2 (.inl y.1), y.2.1, ?_, ?_, ?_⟩
    · rw [ndo nc]; exact y.2.2.1
    · rw [ndo nc, dpo (okn mm.lo)]; exact y.2.2.2.1
    · rw [ndo nc, dpo (okn mm.hi)]; exact y.2.2.2.2
  have kdp : ∀ {c}, D.kidP k P c → (D.cellN k r lo hi l s).kidP k P c := fun {c} y => ⟨okk y.1, y.2.1, y.2.2.imp (fun z => by rw [dpo (okn y.1)]; exact z) isy⟩
  have hkids : (D.cellN k r lo hi l s).kids.Perm (lo :: hi :: D.kids) := by
    refine (kidsOf_perm _ (mk_liveL m)).trans ?_
    show ([((D.cellN k r lo hi l s).nd r).2.1, ((D.cellN k r lo hi l s).nd r).2.2] ++ kidsOf (D.cellN k r lo hi l s).nd D.liveL).Perm _
    rw [ndr, kidsOf_congr (fun j hj => ndo (okn (.inr (mem_liveL.1 hj))))]
    exact List.Perm.refl _
  have pq : ((D.cellN k r lo hi l s).kids ++ r :: E).Perm (r :: (D.kids ++ hi :: lo :: E)) := by
    refine (hkids.append_right _).trans ?_
    refine (List.perm_iff_count).2 (fun z => ?_)
    simp only [List.cons_append, List.count_cons, List.count_append]
    omega
  have nin : r ∉ D.kids ++ hi :: lo :: E := fun x => by
    rcases List.mem_append.1 x with x | x
    · obtain ⟨j, hj, e | e⟩ := mem_kids.1 x
      · exact okn (h.nd j hj).lo e.symm
      · exact okn (h.nd j hj).hi e.symm
    · exact okn (h.eok r x) rfl
  have ndk : ∀ j, (D.cellN k r lo hi l s).live j → NdOk (D.cellN k r lo hi l s) (putN S r G) j := fun j hj => by
    rcases (mk_live m).1 hj with x | rfl
    · have a := h.nd j x
      have nj := okn (.inr x)
      refine ⟨?_, ?_, ?_, ?_, ?_, ?_⟩ <;> rw [ndo nj]
      · exact a.v0
      · exact a.vn
      · exact okk a.lo
      · exact okk a.hi
      · exact a.ne
      · rw [So nj, So (okn a.lo), So (okn a.hi)]; exact a.s
    · refine ⟨?_, ?_, ?_, ?_, ?_, ?_⟩ <;> rw [ndr]
      · exact Int.natCast_nonneg _
      · rw [Int.toNat_natCast]; exact vx
      · exact okk ol
      · exact okk oh
      · exact ne
      · rw [Sr, hG]
        show _ = iteB (Int.toNat (D.vr (k + 1) : Int)) (putN S j _ hi) (putN S j _ lo)
        rw [Int.toNat_natCast, putN_other _ _ nlo, putN_other _ _ nhi]
  have inj' : ∀ i j, (D.cellN k r lo hi l s).ok i → (D.cellN k r lo hi l s).ok j → putN S r G i = putN S r G j → i = j := fun i j hi' hj' e => by
    have no : ∀ c, D.ok c → S c = G → False := fun c hc e => by
      have := h.uniq hk ol oh ne dl dh hc (by rw [e, hG])
      rw [ht] at this
      cases this
    rcases okb hi' with a | rfl <;> rcases okb hj' with b | rfl
    · rw [So (okn a), So (okn b)] at e
      exact h.inj i j a b e
    · rw [So (okn a), Sr] at e
      exact (no i a e).elim
    · rw [Sr, So (okn b)] at e
      exact (no j b e.symm).elim
    · rfl
  have rs' : ∀ j, (D.cellN k r lo hi l s).live j → ∃ F, F ∈ Fs ∧ Rst F (putN S r G j) := fun j hj => by
    rcases (mk_live m).1 hj with x | rfl
    · rw [So (okn (.inr x))]; exact h.rs j x
    · rw [Sr]; exact hR
  have tot' : (D.cellN k r lo hi l s).liveL.length = D.total + 1 := by
    rw [(mk_liveL m).length_eq, List.length_cons, h.tot]
  refine ⟨?_, dpr⟩
  exact
  { perm := h.perm
    two := Nat.le_trans h.two m.ll
    spn := m.sn, spr := m.sr
    cv := by rw [ndo (by omega), ndo (by omega)]; exact h.cv
    s0 := by rw [So (by omega)]; exact h.s0
    s1 := by rw [So (by omega)]; exact h.s1
    nd := ndk, inj := inj'
    dp := fun j hj hP => by
      rcases (mk_live m).1 hj with x | rfl
      · have a := h.dp j x hP
        have b := h.nd j x
        rw [ndo (okn (.inr x)), dpo (okn b.lo), dpo (okn b.hi)]
        exact a
      · rw [ndr]
        show D.pos (Int.toNat (D.vr (k + 1) : Int)) < Dg.dep _ k P lo ∧ D.pos (Int.toNat (D.vr (k + 1) : Int)) < Dg.dep _ k P hi
        rw [Int.toNat_natCast, px, dpo nlo, dpo nhi]
        exact ⟨dl, dh⟩
    ind := fun j hj a b hab => by
      rcases okb hj with x | rfl
      · rw [So (okn x)]
        rw [dpo (okn x)] at hab
        exact h.ind j x a b hab
      · rw [Sr, hG]
        rw [dpr] at hab
        unfold iteB
        rw [hab _ vx (by show k + 1 ≤ D.pos _; omega), h.ind lo ol a b (fun v hv hd => hab v hv (by show k + 1 ≤ D.pos v; omega)), h.ind hi oh a b (fun v hv hd => hab v hv (by show k + 1 ≤ D.pos v; omega))]
    pk := fun j hj => by
      obtain ⟨a1, a2, a3, a4, a5, a6⟩ := h.pk j hj
      rw [ndo (okn (.inr a2))]
      exact ⟨a1, (mk_live m).2 (.inl a2), a3, kdp a4, kdp a5, a6.imp isy isy⟩
    pn := h.pn
    tb := fun v hv p j => by
      show updT D.tab (D.vr (k + 1)) ((lo : Int), (hi : Int)) (some r) v p = some j ↔ _
      unfold updT
      by_cases c : v = D.vr (k + 1) ∧ p = ((lo : Int), (hi : Int))
      · rw [if_pos c, mk_live m]
        constructor
        · intro e
          obtain rfl : r = j := Option.some.inj e
          rw [ndr]
          exact ⟨.inr rfl, rP, by rw [c.1], c.2⟩
        · rintro ⟨a1, a2, a3, a4⟩
          rcases a1 with x | rfl
          · exfalso
            rw [ndo (okn (.inr x))] at a3 a4
            have := (h.tb v hv p j).2 ⟨x, a2, a3, a4⟩
            rw [c.1, c.2, ht] at this
            cases this
          · rfl
      · rw [if_neg c, h.tb v hv, mk_live m]
        constructor
        · rintro ⟨a1, a2⟩
          rw [ndo (okn (.inr a1))]
          exact ⟨.inl a1, a2⟩
        · rintro ⟨x | rfl, a2, a3, a4⟩
          · rw [ndo (okn (.inr x))] at a3 a4
            exact ⟨x, a2, a3, a4⟩
          · rw [ndr] at a3 a4
            exact (c ⟨by have : ((D.vr (k + 1) : Nat) : Int) = (v : Int) := a3; omega, a4⟩).elim
    rf := fun j hj => by
      show putN D.rf r 1 j = _
      rw [pq.count_eq, List.count_cons]
      rcases (mk_live m).1 hj with x | rfl
      · have nj := okn (.inr x)
        rw [putN_other _ _ nj, h.rf j x, if_neg (by simpa using fun e => nj e.symm)]
        rfl
      · rw [putN_same, List.count_eq_zero.2 nin, beq_self_eq_true, if_pos rfl]
        rfl
    use := fun j hj => by
      rw [pq.mem_iff, List.mem_cons]
      rcases (mk_live m).1 hj with x | rfl
      · exact .inr (h.use j x)
      · exact .inl rfl
    eok := fun j hj => by
      rcases List.mem_cons.1 hj with rfl | x
      · exact .inr ((mk_live m).2 (.inr rfl))
      · exact okk (h.eok j (.tail _ (.tail _ x)))
    tot := tot'.symm
    rs := rs', rd := h.rd
    len := by
      show l ≤ Fs.length * 3 ^ D.n + 2
      rcases m.gr with rfl | ⟨rfl, e⟩
      · exact h.len
      · have hb : (D.cellN k r lo hi (D.len + 1) s).liveL.length ≤ Fs.length * 3 ^ D.n := total_bound inj' rs' h.rd
        rw [tot', h.tot] at hb
        have hl : D.len ≤ D.liveL.length + 2 := by
          have := Mgr.nodup_length (List.range D.len) (0 :: 1 :: D.liveL) List.nodup_range (fun j hj => by
            rw [List.mem_range] at hj
            by_cases c : j = 0
            · rw [c]; exact .head _
            by_cases c1 : j = 1
            · rw [c1]; exact .tail _ (.head _)
            · exact .tail _ (.tail _ (mem_liveL.2 ⟨by omega, hj, by rw [e]; simp⟩)))
          rw [List.length_range, List.length_cons, List.length_cons] at this
          exact this
        omega }

/-! ### a cell is turned -/
def turn (D : Dg) (k i A B : Nat) : Dg := { D with nd := putN D.nd i ((D.vr k : Int), A, B), tab := updT D.tab (D.vr k) ((A : Int), (B : Int)) (some i) }
theorem Inv.turn {i A B : Nat} (h : Inv D k (i :: P) (B :: A :: E) S Fs) (hA : A ∉ i :: P) (hB : B ∉ i :: P) (dA : k + 1 ≤ D.dep k (i :: P) A) (dB : k + 1 ≤ D.dep k (i :: P) B)
    (sA : S A = fun a => S i (Mgr.upd a (D.vr k) false)) (sB : S B = fun a => S i (Mgr.upd a (D.vr k) true)) :
    Inv (D.turn k i A B) k P ((D.nd i).2.1 :: (D.nd i).2.2 :: E) S Fs := by
  have oA : D.ok A := h.eok A (.tail _ (.head _))
  have oB : D.ok B := h.eok B (.head _)
  obtain ⟨hk, hl, hv, kl, kh, hy⟩ := h.pk i (.head _)
  have m := h.nd i hl
  have py := h.pos_vr (show k < D.n by omega)
  have vy := h.vr_lt (show k < D.n by omega)
  have hn : i ∉ P := (List.nodup_cons.1 h.pn).1
  have sI : S i = iteB (D.vr k) (S B) (S A) := by
    funext a
    unfold iteB
    have eA : S A a = S i (Mgr.upd a (D.vr k) false) := by rw [sA]
    have eB : S B a = S i (Mgr.upd a (D.vr k) true) := by rw [sB]
    rw [eA, eB]
    cases c : a (D.vr k)
    · rw [if_neg (by simp), ← c, updO_self]
    · rw [if_pos rfl, ← c, updO_self]
  have neAB : A ≠ B := fun e => h.P_dep (.head _) (fun a b => by
    have h1 : ∀ a, S i (Mgr.upd a (D.vr k) false) = S i (Mgr.upd a (D.vr k) true) := fun a => by
      rw [show S i (Mgr.upd a (D.vr k) false) = S A a by rw [sA], show S i (Mgr.upd a (D.vr k) true) = S B a by rw [sB], e]
    have h2 : ∀ c, S i (Mgr.upd a (D.vr k) c) = S i (Mgr.upd a (D.vr k) false) := fun c => by cases c; rfl; exact (h1 a).symm
    rw [h2 b, ← h2 (a (D.vr k)), updO_self])
  have ndo : ∀ {c}, c ≠ i → (D.turn k i A B).nd c = D.nd c := fun hn => putN_other _ _ hn
  have ndr : (D.turn k i A B).nd i = ((D.vr k : Int), A, B) := putN_same _ _ _
  have dpe : ∀ c, (D.turn k i A B).dep k P c = D.dep k (i :: P) c := fun c => by
    unfold dep
    by_cases c2 : c < 2
    · rw [if_pos c2, if_pos c2]; rfl
    · rw [if_neg c2, if_neg c2]
      by_cases ci : c = i
      · subst ci
        rw [if_neg hn, if_pos (.head _), ndr]
        show D.pos (Int.toNat (D.vr k : Int)) = k
        rw [Int.toNat_natCast, py]
      · rw [ndo ci]
        by_cases cP : c ∈ P
        · rw [if_pos cP, if_pos (.tail _ cP)]
        · rw [if_neg cP, if_neg (fun x => (List.mem_cons.1 x).elim ci cP)]; rfl
  have hnk : ∀ {c}, c ∉ i :: P → c ≠ i ∧ c ∉ P := fun hc => ⟨fun e => hc (e ▸ .head _), fun x => hc (.tail _ x)⟩
  have hkn : ∀ {c}, c ∉ P → c ≠ i → c ∉ i :: P := fun h1 h2 x => (List.mem_cons.1 x).elim h2 h1
  have isy : ∀ {c}, D.isY k (i :: P) c → (D.turn k i A B).isY k P c := fun {c} y => by
    obtain ⟨c1, c2⟩ := hnk y.2.1
    refine ⟨y.1, c2, ?_, ?_, ?_⟩
    · rw [ndo c1]; exact y.2.2.1
    · rw [ndo c1, dpe]; exact y.2.2.2.1
    · rw [ndo c1, dpe]; exact y.2.2.2.2
  have kdp : ∀ {c}, D.kidP k (i :: P) c → (D.turn k i A B).kidP k P c := fun {c} y => ⟨y.1, (hnk y.2.1).2, y.2.2.imp (fun z => by rw [dpe]; exact z) isy⟩
  have pl : D.liveL.Perm (i :: D.liveL.erase i) := List.perm_cons_erase (mem_liveL.2 hl)
  have hne : ∀ j, j ∈ D.liveL.erase i → j ≠ i := fun j hj => by
    rw [D.liveL_nodup.erase_eq_filter] at hj
    simpa using (List.mem_filter.1 hj).2
  have pq : (D.kids ++ B :: A :: E).Perm ((D.turn k i A B).kids ++ (D.nd i).2.1 :: (D.nd i).2.2 :: E) := by
    have p1 : D.kids.Perm ((D.nd i).2.1 :: (D.nd i).2.2 :: kidsOf D.nd (D.liveL.erase i)) := kidsOf_perm D.nd pl
    have p2 : (D.turn k i A B).kids.Perm (A :: B :: kidsOf D.nd (D.liveL.erase i)) := by
      refine (kidsOf_perm (D.turn k i A B).nd pl).trans ?_
      show ([((D.turn k i A B).nd i).2.1, ((D.turn k i A B).nd i).2.2] ++ kidsOf (D.turn k i A B).nd (D.liveL.erase i)).Perm _
      rw [ndr, kidsOf_congr (fun j hj => ndo (hne j hj))]
      exact List.Perm.refl _
    refine (p1.append_right _).trans (List.Perm.trans ?_ (p2.append_right _).symm)
    refine (List.perm_iff_count).2 (fun z => ?_)
    simp only [List.cons_append, List.count_cons, List.count_append]
    omega
  exact
  { perm := h.perm, two := h.two, spn := h.spn, spr := h.spr
    cv := by rw [ndo (by have := hl.1; omega), ndo (by have := hl.1; omega)]; exact h.cv
    s0 := h.s0, s1 := h.s1
    nd := fun j hj => by
      by_cases c : j = i
      · subst c
        refine ⟨?_, ?_, ?_, ?_, ?_, ?_⟩ <;> rw [ndr]
        · exact Int.natCast_nonneg _
        · rw [Int.toNat_natCast]; exact vy
        · exact oA
        · exact oB
        · exact neAB
        · rw [Int.toNat_natCast]; exact sI
      · have a := h.nd j hj
        refine ⟨?_, ?_, ?_, ?_, ?_, ?_⟩ <;> rw [ndo c]
        · exact a.v0
        · exact a.vn
        · exact a.lo
        · exact a.hi
        · exact a.ne
        · exact a.s
    inj := h.inj
    dp := fun j hj hP => by
      rw [dpe, dpe]
      by_cases c : j = i
      · subst c
        rw [ndr]
        show D.pos (Int.toNat (D.vr k : Int)) < D.dep k (j :: P) A ∧ D.pos (Int.toNat (D.vr k : Int)) < D.dep k (j :: P) B
        rw [Int.toNat_natCast, py]
        exact ⟨by omega, by omega⟩
      · rw [ndo c]
        exact h.dp j hj (hkn hP c)
    ind := fun j hj a b hab => h.ind j hj a b (fun v hv hd => hab v hv (by rw [dpe]; exact hd))
    pk := fun j hj => by
      obtain ⟨a1, a2, a3, a4, a5, a6⟩ := h.pk j (.tail _ hj)
      rw [ndo (fun e => hn (e ▸ hj))]
      exact ⟨a1, a2, a3, kdp a4, kdp a5, a6.imp isy isy⟩
    pn := (List.nodup_cons.1 h.pn).2
    tb := fun v hv p j => by
      show updT D.tab (D.vr k) ((A : Int), (B : Int)) (some i) v p = some j ↔ D.live j ∧ _
      unfold updT
      by_cases c : v = D.vr k ∧ p = ((A : Int), (B : Int))
      · rw [if_pos c]
        constructor
        · intro e
          obtain rfl : i = j := Option.some.inj e
          rw [ndr]
          exact ⟨hl, hn, by rw [c.1], c.2⟩
        · rintro ⟨a1, a2, a3, a4⟩
          by_cases ci : j = i
          · rw [ci]
          · exfalso
            rw [ndo ci] at a3 a4
            refine ci (h.inj j i (.inr a1) (.inr hl) ?_)
            have b := h.nd j a1
            have e2 := c.2.symm.trans a4
            rw [Prod.mk.injEq] at e2
            rw [b.s, sI, a3, c.1, Int.toNat_natCast, show (D.nd j).2.1 = A by have := e2.1; omega, show (D.nd j).2.2 = B by have := e2.2; omega]
      · rw [if_neg c, h.tb v hv]
        by_cases ci : j = i
        · subst ci
          rw [ndr]
          refine ⟨fun x => (x.2.1 (.head _)).elim, fun ⟨a1, a2, a3, a4⟩ => (c ⟨?_, a4⟩).elim⟩
          have : ((D.vr k : Nat) : Int) = (v : Int) := a3
          omega
        · rw [ndo ci]
          exact ⟨fun ⟨a1, a2, a3⟩ => ⟨a1, (hnk a2).2, a3⟩, fun ⟨a1, a2, a3⟩ => ⟨a1, hkn a2 ci, a3⟩⟩
    rf := fun j hj => by rw [← pq.count_eq]; exact h.rf j hj
    use := fun j hj => pq.mem_iff.1 (h.use j hj)
    eok := fun j hj => by
      rcases List.mem_cons.1 hj with rfl | hj
      · exact m.lo
      rcases List.mem_cons.1 hj with rfl | hj
      · exact m.hi
      · exact h.eok j (.tail _ (.tail _ hj))
    tot := h.tot, rs := h.rs, rd := h.rd, len := h.len }
end
end Dg
end Go.Proofs.YtngbodmooddjbaaGreat

namespace Go.Proofs.YtngbodmooddjbaaGreat
open Go.RowKit
namespace Dg
section
variable {D : Dg} {k : Nat} {P E : List Nat} {S : Nat → Bfn} {Fs : List Bfn}

/-! ### the start of an exchange -/
def hitP (D : Dg) (P : List Nat) (p : Pair) : Bool := P.any fun i => decide (p = (((D.nd i).2.1 : Int), ((D.nd i).2.2 : Int)))
theorem hitP_iff {p : Pair} : D.hitP P p = true ↔ ∃ i, i ∈ P ∧ p = (((D.nd i).2.1 : Int), ((D.nd i).2.2 : Int)) := by
  unfold hitP
  rw [List.any_eq_true]
  exact ⟨fun ⟨i, h1, h2⟩ => ⟨i, h1, of_decide_eq_true h2⟩, fun ⟨i, h1, h2⟩ => ⟨i, h1, decide_eq_true h2⟩⟩
def swap0 (D : Dg) (k : Nat) (P : List Nat) : Dg := { D with order := swO D.order k, tab := fun v p => if v = D.vr k ∧ D.hitP P p = true then none else D.tab v p }
/-- What waits: the cells of the first variable that have a child of the second one. -/
def Both (D : Dg) (k i : Nat) : Prop := D.live i ∧ (D.nd i).1 = (D.vr k : Int) ∧ ((D.nd (D.nd i).2.1).1 = (D.vr (k + 1) : Int) ∨ (D.nd (D.nd i).2.2).1 = (D.vr (k + 1) : Int))
theorem Inv.start (h : Inv D k [] E S Fs) (hk : k + 1 < D.n) (pn : P.Nodup) (hP : ∀ i, i ∈ P ↔ D.Both k i) : Inv (D.swap0 k P) k P E S Fs := by
  have en : (D.swap0 k P).n = D.n := swO_len _ _
  have vk : (D.swap0 k P).vr k = D.vr (k + 1) := by
    show (swO D.order k).getD k 0 = _
    rw [swO_get hk, if_neg (by omega), if_pos rfl]; rfl
  have vk1 : (D.swap0 k P).vr (k + 1) = D.vr k := by
    show (swO D.order k).getD (k + 1) 0 = _
    rw [swO_get hk, if_pos rfl]; rfl
  have px := h.pos_vr (show k < D.n by omega)
  have py := h.pos_vr hk
  have vx := h.vr_lt (show k < D.n by omega)
  have vy := h.vr_lt hk
  have xy := h.xy hk
  have pos' : ∀ v, v < D.n → (D.swap0 k P).pos v = if v = D.vr k then k + 1 else if v = D.vr (k + 1) then k else D.pos v := fun v hv => posO_sw h.perm hk hv
  have npos : ∀ v, v < D.n → v ≠ D.vr k → v ≠ D.vr (k + 1) → D.pos v ≠ k ∧ D.pos v ≠ k + 1 := fun v hv h1 h2 =>
    ⟨fun e => h1 (posO_inj h.perm hv vx (show D.pos v = D.pos _ by rw [e, px])), fun e => h2 (posO_inj h.perm hv vy (show D.pos v = D.pos _ by rw [e, py]))⟩
  have vP : ∀ i, i ∈ P → D.live i ∧ (D.nd i).1.toNat = D.vr k := fun i hi => by
    have := (hP i).1 hi
    exact ⟨this.1, by rw [this.2.1]; rfl⟩
  have dO : ∀ {c}, D.live c → D.dep k [] c = D.pos (D.nd c).1.toNat := fun hc => dep_live hc (by simp)
  have lv : ∀ {c}, D.ok c → D.dep k [] c ≠ D.n → D.live c := fun hc hd => hc.resolve_left (fun x => hd (by unfold dep; rw [if_pos x]))
  have dPi : ∀ i, i ∈ P → D.dep k [] i = k := fun i hi => by rw [dO (vP i hi).1, (vP i hi).2, px]
  have dN : ∀ {c}, D.live c → c ∉ P → (D.swap0 k P).dep k P c = (D.swap0 k P).pos (D.nd c).1.toNat := fun hc hn => dep_live (D := D.swap0 k P) hc hn
  have far : ∀ {c}, D.ok c → D.dep k [] c ≠ k → D.dep k [] c ≠ k + 1 → (D.swap0 k P).dep k P c = D.dep k [] c := fun {c} hc h1 h2 => by
    rcases hc with x | x
    · unfold dep; rw [if_pos x, if_pos x, en]
    · have nP : c ∉ P := fun hp => h1 (dPi c hp)
      have u := (h.nd c x).vn
      rw [dN x nP, pos' _ u, dO x]
      rw [dO x] at h1 h2
      rw [if_neg (fun e => h1 (by rw [e, px])), if_neg (fun e => h2 (by rw [e, py]))]
  have isyv : ∀ {c}, D.ok c → D.dep k [] c = k + 1 → D.live c ∧ (D.nd c).1.toNat = D.vr (k + 1) ∧ c ∉ P ∧ (D.swap0 k P).dep k P c = k := fun {c} hc hd => by
    have l := lv hc (by omega)
    have e : (D.nd c).1.toNat = D.vr (k + 1) := posO_inj h.perm (h.nd c l).vn vy (show D.pos _ = D.pos _ by rw [← dO l, hd, py])
    have nP : c ∉ P := fun hp => xy (by rw [← e, (vP c hp).2])
    refine ⟨l, e, nP, ?_⟩
    rw [dN l nP, pos' _ (h.nd c l).vn, e, if_neg xy, if_pos rfl]
  have isxv : ∀ {c}, D.ok c → D.dep k [] c = k → D.live c ∧ (D.nd c).1.toNat = D.vr k := fun {c} hc hd => by
    have l := lv hc (by omega)
    exact ⟨l, posO_inj h.perm (h.nd c l).vn vx (show D.pos _ = D.pos _ by rw [← dO l, hd, px])⟩
  have xk : ∀ {c}, D.ok c → D.dep k [] c = k → (c ∈ P ∧ (D.swap0 k P).dep k P c = k) ∨ (c ∉ P ∧ (D.swap0 k P).dep k P c = k + 1) := fun {c} hc hd => by
    obtain ⟨l, e⟩ := isxv hc hd
    by_cases hp : c ∈ P
    · exact .inl ⟨hp, dep_P (D := D.swap0 k P) l hp⟩
    · exact .inr ⟨hp, by rw [dN l hp, pos' _ (h.nd c l).vn, e, if_pos rfl]⟩
  have odp := fun i hi => h.dp i hi (by simp)
  -- the children of a cell of the first variable that does not wait
  have nw : ∀ i, D.live i → i ∉ P → (D.nd i).1.toNat = D.vr k → ∀ c, (c = (D.nd i).2.1 ∨ c = (D.nd i).2.2) → D.ok c ∧ k + 1 < D.dep k [] c := fun i hi hn e c hc => by
    have m := h.nd i hi
    have d := odp i hi
    rw [e, px] at d
    have oc : D.ok c := by rcases hc with rfl | rfl; exact m.lo; exact m.hi
    have dc : k < D.dep k [] c := by rcases hc with rfl | rfl; exact d.1; exact d.2
    refine ⟨oc, ?_⟩
    rcases Nat.lt_or_ge (k + 1) (D.dep k [] c) with x | x
    · exact x
    · exfalso
      obtain ⟨l, e2, _⟩ := isyv oc (by omega)
      have ez : (D.nd c).1 = (D.vr (k + 1) : Int) := by have := (h.nd c l).v0; omega
      refine hn ((hP i).2 ⟨hi, by have := m.v0; omega, ?_⟩)
      rcases hc with rfl | rfl
      · exact .inl ez
      · exact .inr ez
  have isy : ∀ {c}, D.ok c → D.dep k [] c = k + 1 → (D.swap0 k P).isY k P c := fun {c} hc hd => by
    obtain ⟨l, e, nP, _⟩ := isyv hc hd
    have m := h.nd c l
    have d := odp c l
    rw [e, py] at d
    refine ⟨l, nP, by rw [vk]; show (D.nd c).1 = _; have := m.v0; omega, ?_, ?_⟩
    · show k + 1 < (D.swap0 k P).dep k P (D.nd c).2.1
      rw [far m.lo (by omega) (by omega)]; exact d.1
    · show k + 1 < (D.swap0 k P).dep k P (D.nd c).2.2
      rw [far m.hi (by omega) (by omega)]; exact d.2
  exact
  { perm := h.perm.sw hk, two := h.two, spn := h.spn, spr := h.spr, cv := h.cv, s0 := h.s0, s1 := h.s1
    nd := fun i hi => ⟨(h.nd i hi).v0, by rw [en]; exact (h.nd i hi).vn, (h.nd i hi).lo, (h.nd i hi).hi, (h.nd i hi).ne, (h.nd i hi).s⟩
    inj := h.inj
    dp := fun i hi hn => by
      have m := h.nd i hi
      have d := odp i hi
      show (D.swap0 k P).pos (D.nd i).1.toNat < (D.swap0 k P).dep k P (D.nd i).2.1 ∧ (D.swap0 k P).pos (D.nd i).1.toNat < (D.swap0 k P).dep k P (D.nd i).2.2
      rw [pos' _ m.vn]
      by_cases e1 : (D.nd i).1.toNat = D.vr k
      · rw [if_pos e1]
        obtain ⟨o1, d1⟩ := nw i hi hn e1 _ (.inl rfl)
        obtain ⟨o2, d2⟩ := nw i hi hn e1 _ (.inr rfl)
        rw [far o1 (by omega) (by omega), far o2 (by omega) (by omega)]
        exact ⟨d1, d2⟩
      · rw [if_neg e1]
        by_cases e2 : (D.nd i).1.toNat = D.vr (k + 1)
        · rw [if_pos e2]
          rw [e2, py] at d
          rw [far m.lo (by omega) (by omega), far m.hi (by omega) (by omega)]
          omega
        · rw [if_neg e2]
          obtain ⟨n1, n2⟩ := npos _ m.vn e1 e2
          have key : ∀ c, D.ok c → D.pos (D.nd i).1.toNat < D.dep k [] c → D.pos (D.nd i).1.toNat < (D.swap0 k P).dep k P c := fun c hc hd => by
            by_cases c1 : D.dep k [] c = k
            · rcases xk hc c1 with ⟨_, e⟩ | ⟨_, e⟩ <;> omega
            · by_cases c2 : D.dep k [] c = k + 1
              · have := (isyv hc c2).2.2.2; omega
              · rw [far hc c1 c2]; exact hd
          exact ⟨key _ m.lo d.1, key _ m.hi d.2⟩
    ind := fun j hj a b hab => by
      rw [en] at hab
      by_cases c1 : D.dep k [] j = k
      · rcases xk hj c1 with ⟨_, e⟩ | ⟨hn, e⟩
        · rw [e] at hab
          refine h.ind j hj a b (fun v hv hd => hab v hv ?_)
          rw [c1] at hd
          rw [pos' v hv]
          split
          · omega
          · split <;> omega
        · rw [e] at hab
          obtain ⟨l, ex⟩ := isxv hj c1
          have m := h.nd j l
          obtain ⟨o1, d1⟩ := nw j l hn ex _ (.inl rfl)
          obtain ⟨o2, d2⟩ := nw j l hn ex _ (.inr rfl)
          have far' : ∀ v, v < D.n → k + 1 < D.pos v → a v = b v := fun v hv hd => hab v hv (by
            rw [pos' v hv]
            split
            · omega
            · split
              · rename_i e3; rw [e3, py] at hd; omega
              · omega)
          rw [m.s]
          unfold iteB
          rw [ex, hab _ vx (by rw [pos' _ vx, if_pos rfl]; omega), h.ind _ o1 a b (fun v hv hd => far' v hv (by omega)), h.ind _ o2 a b (fun v hv hd => far' v hv (by omega))]
      · by_cases c2 : D.dep k [] j = k + 1
        · rw [(isyv hj c2).2.2.2] at hab
          refine h.ind j hj a b (fun v hv hd => hab v hv ?_)
          rw [pos' v hv]
          split
          · omega
          · split <;> omega
        · rw [far hj c1 c2] at hab
          refine h.ind j hj a b (fun v hv hd => hab v hv ?_)
          rw [pos' v hv]
          split
          · rename_i e3; rw [e3, px] at hd; omega
          · split
            · rename_i e3; rw [e3, py] at hd; omega
            · exact hd
    pk := fun i hi => by
      have b := (hP i).1 hi
      have m := h.nd i b.1
      have ex := (vP i hi).2
      have d := odp i b.1
      rw [ex, px] at d
      have kd : ∀ c, D.ok c → k < D.dep k [] c → (D.swap0 k P).kidP k P c := fun c hc hd => by
        refine ⟨hc, fun hp => by have := dPi c hp; omega, ?_⟩
        by_cases c2 : D.dep k [] c = k + 1
        · exact .inr (isy hc c2)
        · exact .inl (by rw [far hc (by omega) c2]; omega)
      have yd : ∀ c, D.ok c → (D.nd c).1 = (D.vr (k + 1) : Int) → (D.swap0 k P).isY k P c := fun c hc e => by
        refine isy hc ?_
        have l : D.live c := hc.resolve_left (fun x => by
          have : c = 0 ∨ c = 1 := by omega
          rcases this with rfl | rfl
          · rw [h.cv.1] at e; omega
          · rw [h.cv.2] at e; omega)
        rw [dO l, e, Int.toNat_natCast, py]
      refine ⟨by rw [en]; exact hk, b.1, by rw [vk1]; exact b.2.1, kd _ m.lo d.1, kd _ m.hi d.2, b.2.2.imp (fun e => yd _ m.lo e) (fun e => yd _ m.hi e)⟩
    pn := pn
    tb := fun v hv p j => by
      rw [en] at hv
      show (if v = D.vr k ∧ D.hitP P p = true then none else D.tab v p) = some j ↔ D.live j ∧ j ∉ P ∧ (D.nd j).1 = (v : Int) ∧ p = (((D.nd j).2.1 : Int), ((D.nd j).2.2 : Int))
      have t := h.tb v hv p j
      by_cases c : v = D.vr k ∧ D.hitP P p = true
      · rw [if_pos c]
        refine ⟨fun x => (by cases x), fun ⟨a1, a2, a3, a4⟩ => ?_⟩
        obtain ⟨i, hi, ep⟩ := hitP_iff.1 c.2
        have b := (hP i).1 hi
        have e1 := (h.tb v hv p i).2 ⟨b.1, by simp, by rw [b.2.1, c.1], ep⟩
        have e2 := t.2 ⟨a1, by simp, a3, a4⟩
        rw [e1] at e2
        rw [← Option.some.inj e2] at a2
        exact (a2 hi).elim
      · rw [if_neg c, t]
        refine ⟨fun ⟨a1, _, a3, a4⟩ => ⟨a1, fun hj => c ⟨?_, hitP_iff.2 ⟨j, hj, a4⟩⟩, a3, a4⟩, fun ⟨a1, _, a3⟩ => ⟨a1, by simp, a3⟩⟩
        have b := ((hP j).1 hj).2.1
        rw [a3] at b
        omega
    rf := h.rf, use := h.use, eok := h.eok, tot := h.tot, rs := h.rs
    rd := fun F hF => by rw [en]; exact h.rd F hF
    len := by rw [en]; exact h.len }

/-! ### 'split' -/
def sp0 (D : Dg) (c v : Nat) : Nat := if (D.nd c).1 = (v : Int) then (D.nd c).2.1 else c
def sp1 (D : Dg) (c v : Nat) : Nat := if (D.nd c).1 = (v : Int) then (D.nd c).2.2 else c
/-- Below both variables. -/
structure Low (D : Dg) (k : Nat) (P : List Nat) (c : Nat) : Prop where
  o : D.ok c
  p : c ∉ P
  d : k + 1 < D.dep k P c
theorem Inv.low (h : Inv D k P E S Fs) (_hk : k + 1 < D.n) {c : Nat} (o : D.ok c) (d : k + 1 < D.dep k P c) : Low D k P c :=
  ⟨o, fun hp => by rw [dep_P (h.pk c hp).2.1 hp] at d; omega, d⟩
theorem Inv.split (h : Inv D k P E S Fs) (hk : k + 1 < D.n) {c : Nat} (hc : D.kidP k P c) :
    Low D k P (D.sp0 c (D.vr k)) ∧ Low D k P (D.sp1 c (D.vr k)) ∧ (∀ a, S (D.sp0 c (D.vr k)) a = S c (Mgr.upd a (D.vr k) false)) ∧ (∀ a, S (D.sp1 c (D.vr k)) a = S c (Mgr.upd a (D.vr k) true)) := by
  have py := h.pos_vr (show k < D.n by omega)
  have vy := h.vr_lt (show k < D.n by omega)
  obtain ⟨ho, hP, hd | y⟩ := hc
  · have e : ¬ (D.nd c).1 = (D.vr k : Int) := fun e => by
      rcases ho with x | x
      · have : c = 0 ∨ c = 1 := by omega
        rcases this with rfl | rfl
        · rw [h.cv.1] at e; omega
        · rw [h.cv.2] at e; omega
      · rw [dep_live x hP, e, Int.toNat_natCast, py] at hd
        omega
    unfold sp0 sp1
    rw [if_neg e, if_neg e]
    exact ⟨⟨ho, hP, hd⟩, ⟨ho, hP, hd⟩, fun a => (h.indep ho vy (by omega) a false).symm, fun a => (h.indep ho vy (by omega) a true).symm⟩
  · have m := h.nd c y.1
    have ev : (D.nd c).1.toNat = D.vr k := by rw [y.2.2.1]; rfl
    unfold sp0 sp1
    rw [if_pos y.2.2.1, if_pos y.2.2.1]
    exact ⟨h.low hk m.lo y.2.2.2.1, h.low hk m.hi y.2.2.2.2, fun a => by rw [← ev, h.lo_at y.1 y.2.1], fun a => by rw [← ev, h.hi_at y.1 y.2.1]⟩

/-! ### 'use' -/
structure UseP (D : Dg) (k : Nat) (P E : List Nat) (S : Nat → Bfn) (Fs : List Bfn) (lo hi : Nat) (D' : Dg) (r : Nat) (S' : Nat → Bfn) : Prop where
  inv : Inv D' k P (r :: E) S' Fs
  rp : r ∉ P
  rd : k + 1 ≤ D'.dep k P r
  fn : S' r = iteB (D.vr (k + 1)) (S hi) (S lo)
  old : ∀ j, D.ok j → D'.nd j = D.nd j ∧ S' j = S j ∧ D'.ok j
  ord : D'.order = D.order
theorem UseP.n {lo hi r : Nat} {D' : Dg} {S' : Nat → Bfn} (u : UseP D k P E S Fs lo hi D' r S') : D'.n = D.n := by unfold Dg.n; rw [u.ord]
theorem UseP.vr {lo hi r : Nat} {D' : Dg} {S' : Nat → Bfn} (u : UseP D k P E S Fs lo hi D' r S') (j : Nat) : D'.vr j = D.vr j := by unfold Dg.vr; rw [u.ord]
theorem UseP.dep {lo hi r : Nat} {D' : Dg} {S' : Nat → Bfn} (u : UseP D k P E S Fs lo hi D' r S') {c : Nat} (hc : D.ok c) : D'.dep k P c = D.dep k P c := by
  unfold Dg.dep Dg.pos
  rw [u.n, u.ord, (u.old c hc).1]
theorem UseP.low {lo hi r : Nat} {D' : Dg} {S' : Nat → Bfn} (u : UseP D k P E S Fs lo hi D' r S') {c : Nat} (l : Low D k P c) : Low D' k P c :=
  ⟨(u.old c l.o).2.2, l.p, by rw [u.dep l.o]; exact l.d⟩
theorem UseP.same (h : Inv D k P E S Fs) (hb : D.total ≤ 1000000000000 ∧ E.length ≤ 100000000000) {lo : Nat} (l : Low D k P lo) : UseP D k P E S Fs lo lo (D.inc lo) lo S where
  inv := h.inc l.o ⟨hb.1, by omega⟩
  rp := l.p
  rd := Nat.le_of_lt l.d
  fn := by funext a; unfold iteB; split <;> rfl
  old := fun j hj => ⟨rfl, rfl, hj⟩
  ord := rfl
theorem UseP.found (h : Inv D k P E S Fs) (hb : D.total ≤ 1000000000000 ∧ E.length ≤ 100000000000) (hk : k + 1 < D.n) {lo hi i : Nat} (ht : D.tab (D.vr (k + 1)) ((lo : Int), (hi : Int)) = some i) : UseP D k P E S Fs lo hi (D.inc i) i S := by
  obtain ⟨l, hP, hv, hp⟩ := (h.tb _ (h.vr_lt hk) _ _).1 ht
  have m := h.nd i l
  rw [Prod.mk.injEq] at hp
  have e1 : lo = (D.nd i).2.1 := by have := hp.1; omega
  have e2 : hi = (D.nd i).2.2 := by have := hp.2; omega
  refine ⟨h.inc (.inr l) ⟨hb.1, by omega⟩, hP, ?_, ?_, fun j hj => ⟨rfl, rfl, hj⟩, rfl⟩
  · show k + 1 ≤ D.dep k P i
    rw [dep_live l hP, hv, Int.toNat_natCast, h.pos_vr hk]
    exact Nat.le_refl _
  · rw [m.s, hv, Int.toNat_natCast, e1, e2]
theorem UseP.made (h : Inv D k P E S Fs) (hb : D.total ≤ 1000000000000 ∧ E.length ≤ 100000000000) (hk : k + 1 < D.n) {lo hi r l : Nat} {s : List Nat} (m : MkOk D r l s) (ne : lo ≠ hi) (ll : Low D k P lo) (lh : Low D k P hi) (ht : D.tab (D.vr (k + 1)) ((lo : Int), (hi : Int)) = none)
    (hR : ∃ F, F ∈ Fs ∧ Rst F (iteB (D.vr (k + 1)) (S hi) (S lo))) :
    UseP D k P E S Fs lo hi (((D.inc lo).inc hi).cellN k r lo hi l s) r (putN S r (iteB (D.vr (k + 1)) (S hi) (S lo))) := by
  have h2 : Inv ((D.inc lo).inc hi) k P (hi :: lo :: E) S Fs := (h.inc ll.o ⟨hb.1, by omega⟩).inc (D := D.inc lo) lh.o ⟨hb.1, by rw [List.length_cons]; omega⟩
  have m2 : MkOk ((D.inc lo).inc hi) r l s := ⟨m.r2, m.rn, m.lv, m.ll, m.sn, m.sr, m.gr⟩
  obtain ⟨i1, i2⟩ := h2.cellN m2 hk ne ll.d lh.d ht rfl hR
  have okn : ∀ {c}, D.ok c → c ≠ r := fun ho e => by
    rcases ho with x | x
    · have := m.r2; omega
    · exact m.rn (e ▸ x)
  exact ⟨i1, fun x => m.rn (h.pk r x).2.1, by rw [i2]; exact Nat.le_refl _, putN_same _ _ _, fun j hj => ⟨putN_other _ _ (okn hj), putN_other _ _ (okn hj), hj.imp id (fun x => (mk_live m2).2 (.inl x))⟩, rfl⟩

/-! ### 'drop' -/
structure DropP (D : Dg) (k : Nat) (P E : List Nat) (S : Nat → Bfn) (Fs : List Bfn) (D' : Dg) : Prop where
  inv : Inv D' k P E S Fs
  ok : ∀ j, D'.ok j → D.ok j
  nd : D'.nd = D.nd
  ord : D'.order = D.order
theorem DropP.dep {D' : Dg} (u : DropP D k P E S Fs D') (c : Nat) : D'.dep k P c = D.dep k P c := by
  unfold Dg.dep Dg.pos Dg.n
  rw [u.nd, u.ord]
theorem DropP.trans {E1 E2 : List Nat} {D1 D2 : Dg} (u : DropP D k P E1 S Fs D1) (v : DropP D1 k P E2 S Fs D2) : DropP D k P E2 S Fs D2 :=
  ⟨v.inv, fun j hj => u.ok j (v.ok j hj), v.nd.trans u.nd, v.ord.trans u.ord⟩
/-- No cell: its reference is forgotten. -/
theorem DropP.const {i : Nat} (h : Inv D k P (i :: E) S Fs) (h2 : i < 2) : DropP D k P E S Fs D :=
  ⟨h.forget h2, fun _ hj => hj, rfl, rfl⟩
/-- Other references are left. -/
theorem DropP.less {i : Nat} (h : Inv D k P (i :: E) S Fs) (hl : D.live i) (h1 : D.rf i ≠ 1) : DropP D k P E S Fs (D.dec i) := by
  refine ⟨h.dec ?_, fun _ hj => hj, rfl, rfl⟩
  have r := h.rf i hl
  rw [List.count_append, List.count_cons, beq_self_eq_true, if_pos rfl] at r
  refine List.count_pos_iff.1 ?_
  rw [List.count_append]
  omega
theorem DropP.free {i : Nat} (h : Inv D k P (i :: E) S Fs) (hl : D.live i) (hP : i ∉ P) (h1 : D.rf i = 1) : DropP D k P ((D.nd i).2.1 :: (D.nd i).2.2 :: E) S Fs (D.free i) :=
  ⟨h.free hl hP h1, fun _ hj => hj.imp id (fun x => (free_live.1 x).1), rfl, rfl⟩
/-- The children of a cell at the first level or below do not wait, and are below. -/
theorem Inv.kid_low {i : Nat} (h : Inv D k P E S Fs) (hl : D.live i) (hP : i ∉ P) (hd : k ≤ D.dep k P i) :
    ((D.nd i).2.1 ∉ P ∧ k ≤ D.dep k P (D.nd i).2.1) ∧ ((D.nd i).2.2 ∉ P ∧ k ≤ D.dep k P (D.nd i).2.2) := by
  have d := h.dp i hl hP
  rw [← dep_live (k := k) hl hP] at d
  have key : ∀ c, D.dep k P i < D.dep k P c → c ∉ P ∧ k ≤ D.dep k P c := fun c hc =>
    ⟨fun hp => by rw [dep_P (h.pk c hp).2.1 hp] at hc; omega, by omega⟩
  exact ⟨key _ d.1, key _ d.2⟩
end
end Dg
end Go.Proofs.YtngbodmooddjbaaGreat
