/-
  Maps that a call or a structure owns, as functions from keys to values; frames of the heap. No function of the program is named here.
-/
import Derived.Test.YtgglkldoclejaaaDoorRows
import Derived.WalkKit
import Derived.WalkSpells
import Derived.WalkLawsBesides
import Derived.Lib.Hide
import Derived.Deep.AppendLies
namespace Go.Proofs.YtgglkldoclejaaaDoor
open Go.RowKit

/-! ### frames -/
/-- All blocks of w but those of A are in w' as they were. -/
structure Kp (A : Nat → Prop) (w w' : World) : Prop where
  os : w'.os = w.os
  tape : w'.tape = w.tape
  output : w'.output = w.output
  size : w.heap.size ≤ w'.heap.size
  block : ∀ k, k < w.heap.size → ¬ A k → w'.heap[k]? = w.heap[k]?

def No : Nat → Prop := fun _ => False
/-- What A' has is A's or new. -/
def Fresh (A A' : Nat → Prop) (w : World) : Prop := ∀ k, A' k → A k ∨ w.heap.size ≤ k

theorem Kp.refl (A : Nat → Prop) (w : World) : Kp A w w := ⟨rfl, rfl, rfl, Nat.le_refl _, fun _ _ _ => rfl⟩
theorem Kp.trans {A A' : Nat → Prop} {w w1 w2 : World} (h : Kp A w w1) (f : Fresh A A' w) (h' : Kp A' w1 w2) : Kp A w w2 :=
  ⟨h'.os.trans h.os, h'.tape.trans h.tape, h'.output.trans h.output, Nat.le_trans h.size h'.size, fun k hk hA =>
    (h'.block k (Nat.lt_of_lt_of_le hk h.size) (fun hA' => by rcases f k hA' with h1 | h1 <;> first | exact hA h1 | omega)).trans (h.block k hk hA)⟩
theorem Kp.mono {A A' : Nat → Prop} {w w' : World} (h : Kp A w w') (hA : ∀ k, k < w.heap.size → A k → A' k) : Kp A' w w' :=
  ⟨h.os, h.tape, h.output, h.size, fun k hk hn => h.block k hk (fun x => hn (hA k hk x))⟩
theorem Kp.of_no {A : Nat → Prop} {w w' : World} (h : Kp No w w') : Kp A w w' := h.mono (fun _ _ x => x.elim)
theorem Kp.trans_no {A : Nat → Prop} {w w1 w2 : World} (h : Kp A w w1) (h' : Kp No w1 w2) : Kp A w w2 :=
  Kp.trans (A' := A) h (fun _ x => .inl x) h'.of_no
theorem Kp.no_trans {A : Nat → Prop} {w w1 w2 : World} (h : Kp No w w1) (h' : Kp A w1 w2) : Kp A w w2 :=
  Kp.trans (A' := A) h.of_no (fun _ x => .inl x) h'
theorem Kp.drewN {w : World} (n : Nat) : Kp No w (w.drewN n) := ⟨rfl, rfl, rfl, Nat.le_refl _, fun _ _ _ => rfl⟩
theorem Kp.drew {w : World} : Kp No w w.drew := ⟨rfl, rfl, rfl, Nat.le_refl _, fun _ _ _ => rfl⟩
theorem Kp.alloc {w : World} (o : Obj) : Kp No w (w.alloc o) := ⟨rfl, rfl, rfl, by simp, fun k hk _ => Below.heap_alloc w o k hk⟩
theorem Kp.grown {w w' : World} {r : Option Nat} (h : w.grownBy w' r) : Kp (fun k => r = some k) w w' := ⟨h.os, h.tape, h.output, h.size, fun k hk hn => h.block k hk (fun e => hn e.symm)⟩
theorem Kp.setCell {w : World} (a : Addr) (v : Value) : Kp (fun k => k = a.block) w (w.setCell a v) := ⟨rfl, rfl, rfl, by simp [World.setCell], fun k _ hn => Below.heap_setCell _ _ _ _ hn⟩
theorem Kp.below {A : Nat → Prop} {w w' : World} {B : Nat} (h : Kp A w w') (hB : B ≤ w.heap.size) (hA : ∀ k, A k → B ≤ k) : Below B w w' :=
  ⟨h.os, h.tape, h.output, h.size, fun k hk => h.block k (by omega) (fun x => by have := hA k x; omega)⟩
theorem Kp.cell {A : Nat → Prop} {w w' : World} (h : Kp A w w') {a : Addr} (hl : a.block < w.heap.size) (hn : ¬ A a.block) : w'.cell? a = w.cell? a := World.cell?_of_block (h.block _ hl hn)
theorem Kp.frozen {A : Nat → Prop} {w w' : World} (h : Kp A w w') {a : Addr} (hl : a.block < w.heap.size) (hn : ¬ A a.block) : w'.frozen? a = w.frozen? a := World.frozen?_of_block (h.block _ hl hn)

theorem heap_lt {w : World} {k : Nat} {o : Obj} (h : w.heap[k]? = some o) : k < w.heap.size := (Array.getElem?_eq_some_iff.1 h).1

/-- An owned row stays what it is. -/
theorem ownsRow_kp {A : Nat → Prop} {w w' : World} {base : Nat} {e : TypeId} {size : Nat} {v : Value} {n : Nat} {xs : List Value} (h : w.ownsRow base e size v n xs) (hk : Kp A w w')
    (hn : ∀ k, v.ownBlock = some k → ¬ A k) : w'.ownsRow base e size v n xs := by
  refine ⟨h.1, ?_⟩
  rcases h.2 with hx | ⟨g, cap, cur, rfl, hb, hg, r⟩
  · exact .inl hx
  · exact .inr ⟨g, cap, cur, rfl, hb, by rw [hk.block g (heap_lt hg) (hn g rfl)]; exact hg, r⟩

/-- The block of an owned row. -/
theorem ownsRow_block {w : World} {base : Nat} {e : TypeId} {size : Nat} {v : Value} {n : Nat} {xs : List Value} (h : w.ownsRow base e size v n xs) {k : Nat} (hk : v.ownBlock = some k) :
    ∃ cur, w.heap[k]? = some (.cells cur e (0, 0)) := by
  rcases h.2 with ⟨rfl, _⟩ | ⟨g, cap, cur, rfl, hb, hg, _⟩
  · simp [Value.ownBlock] at hk
  · simp [Value.ownBlock] at hk; subst hk; exact ⟨cur, hg⟩

/-- An owned row's value, and its cells. -/
theorem ownsRow_open {w : World} {base : Nat} {e : TypeId} {size : Nat} {v : Value} {n : Nat} {xs : List Value} (h : w.ownsRow base e size v n xs) (hn : 0 < n) :
    ∃ g cap, v = .slice (some ⟨g, 0, none⟩) n cap ∧ n ≤ cap ∧ cap ≤ maxLen ∧ (∃ cur, w.heap[g]? = some (.cells cur e (0, 0)) ∧ cur.size = cap * size ∧ cur.toList.take (n * size) = xs) ∧
      (∀ j u, xs[j]? = some u → w.cell? ⟨g, j, none⟩ = some u) ∧ (∀ j, w.frozen? ⟨g, j, none⟩ = false) := by
  rcases h.2 with ⟨_, h0⟩ | ⟨g, cap, cur, rfl, hb, hg, h1, h2, h3, h4⟩
  · omega
  · refine ⟨g, cap, rfl, h1, h2, ⟨cur, hg, h3, h4⟩, ?_, ?_⟩
    · intro j u hu
      rw [cell_of_row w g j cur e (0, 0) hg]
      rw [← h4, List.getElem?_take] at hu
      split at hu
      · simpa using hu
      · cases hu
    · intro j
      simp [World.frozen?, hg]

/-! ### maps -/
section
variable {K V : Type} [DecidableEq K]

/-- What the walk needs of a key's type. -/
structure KeyOk (P : Program) (kt : TypeId) (enc : K → Value) : Prop where
  check : ∀ (w : World) (em : Bool) (k : K), (Instr.checkKey em 10000 kt (enc k)).run P w = .ok () w
  find : ∀ (w : World) (k : K) (es : List MapEntry) (ks : List K), es.map (·.key) = ks.map enc →
    (Instr.findKey kt (enc k) es).run P w = .ok ((ks.findIdx? (fun x => decide (x = k))).bind fun i => (es[i]?).map fun e => (i, e.val)) w
  bits : ∀ k, Instr.sameBits 10000 (enc k) (enc k) = true

def lk (l : List (K × V)) (k : K) : Option V := (l.find? (fun x => decide (x.1 = k))).map (·.2)

/-- Block b is a map that reads as f. -/
def MapAs (w : World) (b : Nat) (enc : K → Value) (ev : V → Value) (f : K → Option V) : Prop :=
  ∃ es clock, w.heap[b]? = some (.map es clock) ∧ ∃ l : List (K × V), es.toList.map (fun e => (e.key, e.val)) = l.map (fun x => (enc x.1, ev x.2)) ∧ ∀ k, lk l k = f k

theorem MapAs.kp {A : Nat → Prop} {w w' : World} {b : Nat} {enc : K → Value} {ev : V → Value} {f : K → Option V} (h : MapAs w b enc ev f) (hk : Kp A w w') (hn : ¬ A b) : MapAs w' b enc ev f := by
  obtain ⟨es, clock, hb, r⟩ := h
  exact ⟨es, clock, by rw [hk.block b (heap_lt hb) hn]; exact hb, r⟩

theorem MapAs.lt {w : World} {b : Nat} {enc : K → Value} {ev : V → Value} {f : K → Option V} (h : MapAs w b enc ev f) : b < w.heap.size := by
  obtain ⟨es, clock, hb, _⟩ := h
  exact heap_lt hb

theorem MapAs.empty (w : World) (enc : K → Value) (ev : V → Value) : MapAs (w.alloc (.map #[] 0)) w.heap.size enc ev (fun _ => none) :=
  ⟨#[], 0, heap_alloc_new w _, [], by simp, fun k => rfl⟩

theorem findIdx_lk (l : List (K × V)) (k : K) : ∀ (es : List MapEntry) (enc : K → Value) (ev : V → Value), es.map (fun e => (e.key, e.val)) = l.map (fun x => (enc x.1, ev x.2)) →
    (((l.map (·.1)).findIdx? (fun x => decide (x = k))).bind fun i => (es[i]?).map fun e => (i, e.val)).map (·.2) = (lk l k).map ev := by
  induction l with
  | nil => intro es enc ev h; simp [lk]
  | cons x l ih =>
    intro es enc ev h
    cases es with
    | nil => simp at h
    | cons e es =>
      simp only [List.map_cons, List.cons.injEq, Prod.mk.injEq] at h
      obtain ⟨⟨h1, h2⟩, h3⟩ := h
      by_cases hx : x.1 = k
      · simp [lk, hx, h2, List.findIdx?_cons]
      · have := ih es enc ev h3
        simp only [List.map_cons, List.findIdx?_cons, hx, decide_false, Bool.false_eq_true, if_false]
        simp only [lk, List.find?_cons, hx, decide_false] at this ⊢
        rw [← this]
        cases (List.map (fun x => x.1) l).findIdx? (fun x => decide (x = k)) <;> simp
        rename_i i
        cases es[i]? <;> simp

/-- 'v, ok := m[k]', 'm[k]'. -/
theorem MapAs.lookup {P : Program} {t kt et : TypeId} {w : World} {b : Nat} {enc : K → Value} {ev : V → Value} {f : K → Option V} (h : MapAs w b enc ev f) (ok : KeyOk P kt enc)
    (ht : P.underlying t = some (.map kt et)) {z : Value} (hz : ∀ w, (zeroValue et).run P w = .ok z w) (k : K) (c : Bool) :
    (Instr.lookup t (.map (some b)) (enc k) c).run P w = .ok (if c then .tuple #[((f k).map ev).getD z, .bool (f k).isSome] else ((f k).map ev).getD z) w := by
  obtain ⟨es, clock, hb, l, hl, hf⟩ := h
  have hks : es.toList.map (·.key) = (l.map (·.1)).map enc := by
    have := congrArg (List.map Prod.fst) hl
    simpa [List.map_map, Function.comp_def] using this
  have h1 := ok.find w k es.toList _ hks
  have h2 := findIdx_lk l k es.toList enc ev hl
  rw [hf k] at h2
  generalize ((l.map (·.1)).findIdx? (fun x => decide (x = k))).bind (fun i => (es.toList[i]?).map fun e => (i, e.val)) = r at h1 h2
  simp only [Instr.lookup, Sem.run_bind, run_underlying ht, Result.andThen_ok, MapKept.run_getObj_map hb, Sem.run_pure, ok.check]
  simp only [h1, Result.andThen_ok]
  cases r with
  | none =>
    cases hfk : f k with
    | none => simp [hz]
    | some v => simp [hfk] at h2
  | some iv =>
    cases hfk : f k with
    | none => simp [hfk] at h2
    | some v => simp [hfk] at h2; simp [h2]

theorem lk_append (l : List (K × V)) (k k' : K) (v : V) (hn : lk l k = none) : lk (l ++ [(k, v)]) k' = if k' = k then some v else lk l k' := by
  unfold lk at hn ⊢
  rw [List.find?_append]
  by_cases e : k' = k
  · subst e
    have : List.find? (fun x => decide (x.1 = k')) l = none := by simpa using hn
    simp [this]
  · have : ¬ k = k' := fun x => e x.symm
    simp only [List.find?_cons, this, decide_false, List.find?_nil, Option.or_none, e, if_false]

theorem lk_modify (l : List (K × V)) (k k' : K) (v : V) : ∀ i, (l.map (·.1)).findIdx? (fun x => decide (x = k)) = some i → lk (l.modify i fun _ => (k, v)) k' = if k' = k then some v else lk l k' := by
  induction l with
  | nil => intro i h; simp at h
  | cons x l ih =>
    intro i h
    simp only [List.map_cons, List.findIdx?_cons] at h
    by_cases hx : x.1 = k
    · simp only [hx, decide_true, if_true, Option.some.injEq] at h
      subst h
      by_cases e : k' = k
      · subst e; simp [lk]
      · have e' : ¬ k = k' := fun x => e x.symm
        simp [lk, e, e', hx]
    · simp only [hx, decide_false, Bool.false_eq_true, if_false, Option.map_eq_some_iff] at h
      obtain ⟨j, hj, rfl⟩ := h
      have := ih j hj
      simp only [lk, List.modify_succ_cons, List.find?_cons] at this ⊢
      by_cases e : x.1 = k'
      · have : ¬ k' = k := fun y => hx (e.trans y)
        simp [e, this]
      · simp only [e, decide_false]
        exact this

/-- 'm[k] = v'. -/
theorem MapAs.update {P : Program} {t kt et : TypeId} {w : World} {b : Nat} {enc : K → Value} {ev : V → Value} {f : K → Option V} (h : MapAs w b enc ev f) (ok : KeyOk P kt enc)
    (ht : P.underlying t = some (.map kt et)) (k : K) (v : V) :
    ∃ w', (∀ n, (Instr.mapUpdate t (.map (some b)) (enc k) (ev v)).run P (w.drewN n) = .ok () (w'.drewN n)) ∧ MapAs w' b enc ev (fun x => if x = k then some v else f x) ∧ Kp (fun x => x = b) w w' ∧ w'.heap.size = w.heap.size := by
  obtain ⟨es, clock, hb, l, hl, hf⟩ := h
  have hks : es.toList.map (·.key) = (l.map (·.1)).map enc := by
    have := congrArg (List.map Prod.fst) hl
    simpa [List.map_map, Function.comp_def] using this
  have h1 := fun n => ok.find (w.drewN n) k es.toList _ hks
  have hbn : ∀ n, (w.drewN n).heap[b]? = some (.map es clock) := fun n => hb
  have h2 := findIdx_lk l k es.toList enc ev hl
  have hlen : es.toList.length = l.length := by simpa using congrArg List.length hl
  cases hr : (l.map (·.1)).findIdx? (fun x => decide (x = k)) with
  | none =>
    have hn : lk l k = none := by rw [hr] at h2; simpa using h2.symm
    refine ⟨{ w with heap := w.heap.setIfInBounds b (.map (es.push { key := enc k, val := ev v, born := clock }) (clock + 1)) }, fun n => ?_, ?_, ⟨rfl, rfl, rfl, by simp, fun j _ hj => ?_⟩, by simp⟩
    · have h1' := h1 n
      rw [hr] at h1'
      simp only [Instr.mapUpdate, Sem.run_bind, run_underlying ht, Result.andThen_ok, MapKept.run_getObj_map (hbn n), ok.check, h1']
      simp only [Option.bind_none, MapKept.run_setObj_map _ (hbn n)]
      rfl
    · refine ⟨es.push { key := enc k, val := ev v, born := clock }, clock + 1, by simp [heap_lt hb], l ++ [(k, v)], by simp [hl], fun x => ?_⟩
      rw [lk_append l k x v hn, hf x]
    · simp [Ne.symm hj]
  | some i =>
    have hi : i < es.toList.length := by
      have := (List.findIdx?_eq_some_iff_getElem.1 hr).1
      simpa [hlen] using this
    have hkey : (es.toList[i]).key = enc k := by
      have h3 := (List.findIdx?_eq_some_iff_getElem.1 hr).2.1
      simp at h3
      have h4 : (es.toList.map (·.key))[i]? = ((l.map (·.1)).map enc)[i]? := by rw [hks]
      simp [List.getElem?_eq_getElem hi, List.getElem?_eq_getElem (hlen ▸ hi)] at h4
      simpa [h3] using h4
    refine ⟨{ w with heap := w.heap.setIfInBounds b (.map (es.modify i fun e => { e with key := enc k, val := ev v }) clock) }, fun n => ?_, ?_, ⟨rfl, rfl, rfl, by simp, fun j _ hj => ?_⟩, by simp⟩
    · have h1' := h1 n
      rw [hr] at h1'
      have hi' : i < es.size := by simpa using hi
      simp only [Instr.mapUpdate, Sem.run_bind, run_underlying ht, Result.andThen_ok, MapKept.run_getObj_map (hbn n), ok.check, h1', Option.bind_some, List.getElem?_eq_getElem hi, Option.map_some]
      have hk2 : ((es[i]?).map (·.key)).getD (enc k) = enc k := by
        simp [hi']; simpa using hkey
      simp only [hk2]
      simp only [Instr.keyThatStays, ok.bits, if_true, Sem.run_pure, Result.andThen_ok, MapKept.run_setObj_map _ (hbn n)]
      rfl
    · refine ⟨es.modify i fun e => { e with key := enc k, val := ev v }, clock, by simp [heap_lt hb], l.modify i fun _ => (k, v), ?_, fun x => ?_⟩
      · rw [Array.toList_modify]
        apply List.ext_getElem?
        intro j
        have hj := congrArg (fun L => L[j]?) hl
        simp only [List.getElem?_map, List.getElem?_modify] at hj ⊢
        by_cases e : i = j
        · subst e
          simp [List.getElem?_eq_getElem hi, List.getElem?_eq_getElem (hlen ▸ hi)]
        · simp [e]
          simpa using hj
      · rw [lk_modify l k x v i hr, hf x]
    · simp [Ne.symm hj]

end
end Go.Proofs.YtgglkldoclejaaaDoor
