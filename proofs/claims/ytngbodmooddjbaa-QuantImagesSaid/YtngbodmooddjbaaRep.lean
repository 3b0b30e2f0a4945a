/-
  How a manager of the package bdd lies in memory.
-/
import Derived.Test.YtngbodmooddjbaaRows
import Derived.Test.YtngbodmooddjbaaBdd
import Derived.WalkKit
import Derived.WalkSpells
import Derived.WalkLawsBesides
import Derived.Lib.Hide
import Derived.Deep.AppendLies
import Derived.Laws.Tables
import Derived.ProofKit
import Derived.OpenShut
namespace Go.Proofs.Ytngbodmooddjbaa
open Go.RowKit

/-! ### frames -/
/-- All blocks of w but those of A are in w' as they were. -/
structure Kp (A : Nat → Prop) (w w' : World) : Prop where
  os : w'.os = w.os
  tape : w'.tape = w.tape
  output : w'.output = w.output
  size : w.heap.size ≤ w'.heap.size
  block : ∀ k, k < w.heap.size → ¬ A k → w'.heap[k]? = w.heap[k]?

def No : Nat → Prop := fun _ => False
/-- What A' has is A's or new. -/
def Fresh (A A' : Nat → Prop) (w : World) : Prop := ∀ k, A' k → A k ∨ w.heap.size ≤ k

theorem Kp.refl (A : Nat → Prop) (w : World) : Kp A w w := ⟨rfl, rfl, rfl, Nat.le_refl _, fun _ _ _ => rfl⟩
theorem Kp.trans {A A' : Nat → Prop} {w w1 w2 : World} (h : Kp A w w1) (f : Fresh A A' w) (h' : Kp A' w1 w2) : Kp A w w2 :=
  ⟨h'.os.trans h.os, h'.tape.trans h.tape, h'.output.trans h.output, Nat.le_trans h.size h'.size, fun k hk hA =>
    (h'.block k (Nat.lt_of_lt_of_le hk h.size) (fun hA' => by rcases f k hA' with h1 | h1 <;> first | exact hA h1 | omega)).trans (h.block k hk hA)⟩
theorem Kp.mono {A A' : Nat → Prop} {w w' : World} (h : Kp A w w') (hA : ∀ k, k < w.heap.size → A k → A' k) : Kp A' w w' :=
  ⟨h.os, h.tape, h.output, h.size, fun k hk hn => h.block k hk (fun x => hn (hA k hk x))⟩
theorem Kp.of_no {A : Nat → Prop} {w w' : World} (h : Kp No w w') : Kp A w w' := h.mono (fun _ _ x => x.elim)
theorem Kp.trans_no {A : Nat → Prop} {w w1 w2 : World} (h : Kp A w w1) (h' : Kp No w1 w2) : Kp A w w2 :=
  Kp.trans (A' := A) h (fun _ x => .inl x) h'.of_no
theorem Kp.no_trans {A : Nat → Prop} {w w1 w2 : World} (h : Kp No w w1) (h' : Kp A w1 w2) : Kp A w w2 :=
  Kp.trans (A' := A) h.of_no (fun _ x => .inl x) h'
theorem Kp.drewN {w : World} (n : Nat) : Kp No w (w.drewN n) := ⟨rfl, rfl, rfl, Nat.le_refl _, fun _ _ _ => rfl⟩
theorem Kp.drew {w : World} : Kp No w w.drew := ⟨rfl, rfl, rfl, Nat.le_refl _, fun _ _ _ => rfl⟩
theorem Kp.alloc {w : World} (o : Obj) : Kp No w (w.alloc o) := ⟨rfl, rfl, rfl, by simp, fun k hk _ => Below.heap_alloc w o k hk⟩
theorem Kp.grown {w w' : World} {r : Option Nat} (h : w.grownBy w' r) : Kp (fun k => r = some k) w w' := ⟨h.os, h.tape, h.output, h.size, fun k hk hn => h.block k hk (fun e => hn e.symm)⟩
theorem Kp.setCell {w : World} (a : Addr) (v : Value) : Kp (fun k => k = a.block) w (w.setCell a v) := ⟨rfl, rfl, rfl, by simp [World.setCell], fun k _ hn => Below.heap_setCell _ _ _ _ hn⟩
theorem Kp.below {A : Nat → Prop} {w w' : World} {B : Nat} (h : Kp A w w') (hB : B ≤ w.heap.size) (hA : ∀ k, A k → B ≤ k) : Below B w w' :=
  ⟨h.os, h.tape, h.output, h.size, fun k hk => h.block k (by omega) (fun x => by have := hA k x; omega)⟩
theorem Kp.cell {A : Nat → Prop} {w w' : World} (h : Kp A w w') {a : Addr} (hl : a.block < w.heap.size) (hn : ¬ A a.block) : w'.cell? a = w.cell? a := World.cell?_of_block (h.block _ hl hn)
theorem Kp.frozen {A : Nat → Prop} {w w' : World} (h : Kp A w w') {a : Addr} (hl : a.block < w.heap.size) (hn : ¬ A a.block) : w'.frozen? a = w.frozen? a := World.frozen?_of_block (h.block _ hl hn)

theorem heap_lt {w : World} {k : Nat} {o : Obj} (h : w.heap[k]? = some o) : k < w.heap.size := (Array.getElem?_eq_some_iff.1 h).1

/-- An owned row stays what it is. -/
theorem ownsRow_kp {A : Nat → Prop} {w w' : World} {base : Nat} {e : TypeId} {size : Nat} {v : Value} {n : Nat} {xs : List Value} (h : w.ownsRow base e size v n xs) (hk : Kp A w w')
    (hn : ∀ k, v.ownBlock = some k → ¬ A k) : w'.ownsRow base e size v n xs := by
  refine ⟨h.1, ?_⟩
  rcases h.2 with hx | ⟨g, cap, cur, rfl, hb, hg, r⟩
  · exact .inl hx
  · exact .inr ⟨g, cap, cur, rfl, hb, by rw [hk.block g (heap_lt hg) (hn g rfl)]; exact hg, r⟩

/-- The block of an owned row. -/
theorem ownsRow_block {w : World} {base : Nat} {e : TypeId} {size : Nat} {v : Value} {n : Nat} {xs : List Value} (h : w.ownsRow base e size v n xs) {k : Nat} (hk : v.ownBlock = some k) :
    ∃ cur, w.heap[k]? = some (.cells cur e (0, 0)) := by
  rcases h.2 with ⟨rfl, _⟩ | ⟨g, cap, cur, rfl, hb, hg, _⟩
  · simp [Value.ownBlock] at hk
  · simp [Value.ownBlock] at hk; subst hk; exact ⟨cur, hg⟩

/-- An owned row's value, and its cells. -/
theorem ownsRow_open {w : World} {base : Nat} {e : TypeId} {size : Nat} {v : Value} {n : Nat} {xs : List Value} (h : w.ownsRow base e size v n xs) (hn : 0 < n) :
    ∃ g cap, v = .slice (some ⟨g, 0, none⟩) n cap ∧ n ≤ cap ∧ cap ≤ maxLen ∧ (∃ cur, w.heap[g]? = some (.cells cur e (0, 0)) ∧ cur.size = cap * size ∧ cur.toList.take (n * size) = xs) ∧
      (∀ j u, xs[j]? = some u → w.cell? ⟨g, j, none⟩ = some u) ∧ (∀ j, w.frozen? ⟨g, j, none⟩ = false) := by
  rcases h.2 with ⟨_, h0⟩ | ⟨g, cap, cur, rfl, hb, hg, h1, h2, h3, h4⟩
  · omega
  · refine ⟨g, cap, rfl, h1, h2, ⟨cur, hg, h3, h4⟩, ?_, ?_⟩
    · intro j u hu
      rw [cell_of_row w g j cur e (0, 0) hg]
      rw [← h4, List.getElem?_take] at hu
      split at hu
      · simpa using hu
      · cases hu
    · intro j
      simp [World.frozen?, hg]

/-! ### maps -/
section
variable {K V : Type} [DecidableEq K]

/-- What the walk needs of a key's type. -/
structure KeyOk (P : Program) (kt : TypeId) (enc : K → Value) : Prop where
  check : ∀ (w : World) (em : Bool) (k : K), (Instr.checkKey em 10000 kt (enc k)).run P w = .ok () w
  find : ∀ (w : World) (k : K) (es : List MapEntry) (ks : List K), es.map (·.key) = ks.map enc →
    (Instr.findKey kt (enc k) es).run P w = .ok ((ks.findIdx? (fun x => decide (x = k))).bind fun i => (es[i]?).map fun e => (i, e.val)) w
  bits : ∀ k, Instr.sameBits 10000 (enc k) (enc k) = true

def lk (l : List (K × V)) (k : K) : Option V := (l.find? (fun x => decide (x.1 = k))).map (·.2)

/-- Block b is a map that reads as f. -/
def MapAs (w : World) (b : Nat) (enc : K → Value) (ev : V → Value) (f : K → Option V) : Prop :=
  ∃ es clock, w.heap[b]? = some (.map es clock) ∧ ∃ l : List (K × V), es.toList.map (fun e => (e.key, e.val)) = l.map (fun x => (enc x.1, ev x.2)) ∧ ∀ k, lk l k = f k

theorem MapAs.kp {A : Nat → Prop} {w w' : World} {b : Nat} {enc : K → Value} {ev : V → Value} {f : K → Option V} (h : MapAs w b enc ev f) (hk : Kp A w w') (hn : ¬ A b) : MapAs w' b enc ev f := by
  obtain ⟨es, clock, hb, r⟩ := h
  exact ⟨es, clock, by rw [hk.block b (heap_lt hb) hn]; exact hb, r⟩

theorem MapAs.lt {w : World} {b : Nat} {enc : K → Value} {ev : V → Value} {f : K → Option V} (h : MapAs w b enc ev f) : b < w.heap.size := by
  obtain ⟨es, clock, hb, _⟩ := h
  exact heap_lt hb

theorem MapAs.empty (w : World) (enc : K → Value) (ev : V → Value) : MapAs (w.alloc (.map #[] 0)) w.heap.size enc ev (fun _ => none) :=
  ⟨#[], 0, heap_alloc_new w _, [], by simp, fun k => rfl⟩

theorem findIdx_lk (l : List (K × V)) (k : K) : ∀ (es : List MapEntry) (enc : K → Value) (ev : V → Value), es.map (fun e => (e.key, e.val)) = l.map (fun x => (enc x.1, ev x.2)) →
    (((l.map (·.1)).findIdx? (fun x => decide (x = k))).bind fun i => (es[i]?).map fun e => (i, e.val)).map (·.2) = (lk l k).map ev := by
  induction l with
  | nil => intro es enc ev h; simp [lk]
  | cons x l ih =>
    intro es enc ev h
    cases es with
    | nil => simp at h
    | cons e es =>
      simp only [List.map_cons, List.cons.injEq, Prod.mk.injEq] at h
      obtain ⟨⟨h1, h2⟩, h3⟩ := h
      by_cases hx : x.1 = k
      · simp [lk, hx, h2, List.findIdx?_cons]
      · have := ih es enc ev h3
        simp only [List.map_cons, List.findIdx?_cons, hx, decide_false, Bool.false_eq_true, if_false]
        simp only [lk, List.find?_cons, hx, decide_false] at this ⊢
        rw [← this]
        cases (List.map (fun x => x.1) l).findIdx? (fun x => decide (x = k)) <;> simp
        rename_i i
        cases es[i]? <;> simp

/-- 'v, ok := m[k]', 'm[k]'. -/
theorem MapAs.lookup {P : Program} {t kt et : TypeId} {w : World} {b : Nat} {enc : K → Value} {ev : V → Value} {f : K → Option V} (h : MapAs w b enc ev f) (ok : KeyOk P kt enc)
    (ht : P.underlying t = some (.map kt et)) {z : Value} (hz : ∀ w, (zeroValue et).run P w = .ok z w) (k : K) (c : Bool) :
    (Instr.lookup t (.map (some b)) (enc k) c).run P w = .ok (if c then .tuple #[((f k).map ev).getD z, .bool (f k).isSome] else ((f k).map ev).getD z) w := by
  obtain ⟨es, clock, hb, l, hl, hf⟩ := h
  have hks : es.toList.map (·.key) = (l.map (·.1)).map enc := by
    have := congrArg (List.map Prod.fst) hl
    simpa [List.map_map, Function.comp_def] using this
  have h1 := ok.find w k es.toList _ hks
  have h2 := findIdx_lk l k es.toList enc ev hl
  rw [hf k] at h2
  generalize ((l.map (·.1)).findIdx? (fun x => decide (x = k))).bind (fun i => (es.toList[i]?).map fun e => (i, e.val)) = r at h1 h2
  simp only [Instr.lookup, Sem.run_bind, run_underlying ht, Result.andThen_ok, MapKept.run_getObj_map hb, Sem.run_pure, ok.check]
  simp only [h1, Result.andThen_ok]
  cases r with
  | none =>
    cases hfk : f k with
    | none => simp [hz]
    | some v => simp [hfk] at h2
  | some iv =>
    cases hfk : f k with
    | none => simp [hfk] at h2
    | some v => simp [hfk] at h2; simp [h2]

theorem lk_append (l : List (K × V)) (k k' : K) (v : V) (hn : lk l k = none) : lk (l ++ [(k, v)]) k' = if k' = k then some v else lk l k' := by
  unfold lk at hn ⊢
  rw [List.find?_append]
  by_cases e : k' = k
  · subst e
    have : List.find? (fun x => decide (x.1 = k')) l = none := by simpa using hn
    simp [this]
  · have : ¬ k = k' := fun x => e x.symm
    simp only [List.find?_cons, this, decide_false, List.find?_nil, Option.or_none, e, if_false]

theorem lk_modify (l : List (K × V)) (k k' : K) (v : V) : ∀ i, (l.map (·.1)).findIdx? (fun x => decide (x = k)) = some i → lk (l.modify i fun _ => (k, v)) k' = if k' = k then some v else lk l k' := by
  induction l with
  | nil => intro i h; simp at h
  | cons x l ih =>
    intro i h
    simp only [List.map_cons, List.findIdx?_cons] at h
    by_cases hx : x.1 = k
    · simp only [hx, decide_true, if_true, Option.some.injEq] at h
      subst h
      by_cases e : k' = k
      · subst e; simp [lk]
      · have e' : ¬ k = k' := fun x => e x.symm
        simp [lk, e, e', hx]
    · simp only [hx, decide_false, Bool.false_eq_true, if_false, Option.map_eq_some_iff] at h
      obtain ⟨j, hj, rfl⟩ := h
      have := ih j hj
      simp only [lk, List.modify_succ_cons, List.find?_cons] at this ⊢
      by_cases e : x.1 = k'
      · have : ¬ k' = k := fun y => hx (e.trans y)
        simp [e, this]
      · simp only [e, decide_false]
        exact this

/-- 'm[k] = v'. -/
theorem MapAs.update {P : Program} {t kt et : TypeId} {w : World} {b : Nat} {enc : K → Value} {ev : V → Value} {f : K → Option V} (h : MapAs w b enc ev f) (ok : KeyOk P kt enc)
    (ht : P.underlying t = some (.map kt et)) (k : K) (v : V) :
    ∃ w', (∀ n, (Instr.mapUpdate t (.map (some b)) (enc k) (ev v)).run P (w.drewN n) = .ok () (w'.drewN n)) ∧ MapAs w' b enc ev (fun x => if x = k then some v else f x) ∧ Kp (fun x => x = b) w w' ∧ w'.heap.size = w.heap.size := by
  obtain ⟨es, clock, hb, l, hl, hf⟩ := h
  have hks : es.toList.map (·.key) = (l.map (·.1)).map enc := by
    have := congrArg (List.map Prod.fst) hl
    simpa [List.map_map, Function.comp_def] using this
  have h1 := fun n => ok.find (w.drewN n) k es.toList _ hks
  have hbn : ∀ n, (w.drewN n).heap[b]? = some (.map es clock) := fun n => hb
  have h2 := findIdx_lk l k es.toList enc ev hl
  have hlen : es.toList.length = l.length := by simpa using congrArg List.length hl
  cases hr : (l.map (·.1)).findIdx? (fun x => decide (x = k)) with
  | none =>
    have hn : lk l k = none := by rw [hr] at h2; simpa using h2.symm
    refine ⟨{ w with heap := w.heap.setIfInBounds b (.map (es.push { key := enc k, val := ev v, born := clock }) (clock + 1)) }, fun n => ?_, ?_, ⟨rfl, rfl, rfl, by simp, fun j _ hj => ?_⟩, by simp⟩
    · have h1' := h1 n
      rw [hr] at h1'
      simp only [Instr.mapUpdate, Sem.run_bind, run_underlying ht, Result.andThen_ok, MapKept.run_getObj_map (hbn n), ok.check, h1']
      simp only [Option.bind_none, MapKept.run_setObj_map _ (hbn n)]
      rfl
    · refine ⟨es.push { key := enc k, val := ev v, born := clock }, clock + 1, by simp [heap_lt hb], l ++ [(k, v)], by simp [hl], fun x => ?_⟩
      rw [lk_append l k x v hn, hf x]
    · simp [Ne.symm hj]
  | some i =>
    have hi : i < es.toList.length := by
      have := (List.findIdx?_eq_some_iff_getElem.1 hr).1
      simpa [hlen] using this
    have hkey : (es.toList[i]).key = enc k := by
      have h3 := (List.findIdx?_eq_some_iff_getElem.1 hr).2.1
      simp at h3
      have h4 : (es.toList.map (·.key))[i]? = ((l.map (·.1)).map enc)[i]? := by rw [hks]
      simp [List.getElem?_eq_getElem hi, List.getElem?_eq_getElem (hlen ▸ hi)] at h4
      simpa [h3] using h4
    refine ⟨{ w with heap := w.heap.setIfInBounds b (.map (es.modify i fun e => { e with key := enc k, val := ev v }) clock) }, fun n => ?_, ?_, ⟨rfl, rfl, rfl, by simp, fun j _ hj => ?_⟩, by simp⟩
    · have h1' := h1 n
      rw [hr] at h1'
      have hi' : i < es.size := by simpa using hi
      simp only [Instr.mapUpdate, Sem.run_bind, run_underlying ht, Result.andThen_ok, MapKept.run_getObj_map (hbn n), ok.check, h1', Option.bind_some, List.getElem?_eq_getElem hi, Option.map_some]
      have hk2 : ((es[i]?).map (·.key)).getD (enc k) = enc k := by
        simp [hi']; simpa using hkey
      simp only [hk2]
      simp only [Instr.keyThatStays, ok.bits, if_true, Sem.run_pure, Result.andThen_ok, MapKept.run_setObj_map _ (hbn n)]
      rfl
    · refine ⟨es.modify i fun e => { e with key := enc k, val := ev v }, clock, by simp [heap_lt hb], l.modify i fun _ => (k, v), ?_, fun x => ?_⟩
      · rw [Array.toList_modify]
        apply List.ext_getElem?
        intro j
        have hj := congrArg (fun L => L[j]?) hl
        simp only [List.getElem?_map, List.getElem?_modify] at hj ⊢
        by_cases e : i = j
        · subst e
          simp [List.getElem?_eq_getElem hi, List.getElem?_eq_getElem (hlen ▸ hi)]
        · simp [e]
          simpa using hj
      · rw [lk_modify l k x v i hr, hf x]
    · simp [Ne.symm hj]

end
end Go.Proofs.Ytngbodmooddjbaa

namespace Go.Proofs.Ytngbodmooddjbaa
open Go.RowKit

theorem Kp.setRow (w : World) (g : Nat) (cs : Array Value) : Kp (fun k => k = g) w (w.setRow g cs) := ⟨rfl, rfl, rfl, by simp, fun k _ hn => setRow_other _ _ _ _ hn⟩

theorem wpList_store_arr {P : Program} {ops : Array Oper} {rest : List Oper} {o : Oper} {a : Act} {w : World} {Q : Exit → Act → World → Prop} (hgd : o.guard = none) (ty : TypeId) (x y : Operand) (ho : o.op = .store ty x y)
    (g : Nat) (cells : Array Value) (hx : a.eval x = .pointer (some ⟨g, 0, none⟩)) (hy : a.eval y = .agg cells)
    (t : TypeId) (old : Array Value) (hg : w.heap[g]? = some (.cells old t (0, 0))) (hi : (P.info? ty).map (·.size) = some cells.size)
    (hold : old.size = cells.size) (h1 : cells.all (·.oneCell') = true)
    (h : ∀ w2, w2.heap[g]? = some (.cells cells t (0, 0)) → Kp (fun k => k = g) w w2 → wpList P ops Q rest (a.put o.dst undef) w2) : wpList P ops Q (o :: rest) a w :=
  wpList_store_row hgd ty x y ho g cells hx hy t old hg hi hold h1 (h _ (setRow_heap _ _ _ _ _ _ hg) (Kp.setRow _ _ _))

end Go.Proofs.Ytngbodmooddjbaa

namespace Go.Proofs.Ytngbodmooddjbaa
open Go.ChangeShapes Go.WideShapes Go.ChangeAt Go.RowKit

theorem Kp.below_all {W W' : World} (h : Kp No W W') : Below W.heap.size W W' := h.below (Nat.le_refl _) (fun _ x => x.elim)

/-- What was there reads as it did, so the row's end is met. -/
theorem row_end {H : Type} {enc : TypeId × Value → H} {P : Program} {f : Func} {s : ChangeSpec} {apart fresh handsOn again : Bool} {W W' : World} {args : Array Value} {v : Value} {ds gs : List (DataW H)} {places pa pv : List MemPlace}
    (whole : DataW.Whole enc P f.params.toList s.vars apart W args.toList ds gs places)
    (res : ∀ (b : Nat) (sp : Nat → Bool) (hd : Bool), DataW.TrodAll enc P W' b sp hd f.resultTypes.toList (v.resultList f.resultTypes.size) (s.fn H (ds ++ gs)).results [])
    (again_args : ∀ sp : Nat → Bool, (∀ q ∈ places, sp q.block = true) → DataW.TrodAll enc P W' 0 sp true f.params.toList args.toList (s.fn H (ds ++ gs)).args pa)
    (again_vars : ∀ sp : Nat → Bool, (∀ q ∈ places, sp q.block = true) → DataW.TrodVars enc P W' sp s.vars (s.fn H (ds ++ gs)).vars pv)
    (split : places = pa ++ pv) (kept : Kp No W W')
    (ok : ∀ (j : Nat) (t : TypeId) (r : Value), f.resultTypes[j]? = some t → (v.resultList f.resultTypes.size)[j]? = some r → Value.okWide P W' .any 0 t r) :
    s.post enc P f apart fresh handsOn again W args v W' := by
  have below := kept.below_all
  have old : ∀ q ∈ places, q.block < W.heap.size := fun q hq => whole.lt q hq
  have mark : ∀ q ∈ places, (fun b => decide (b < W.heap.size)) q.block = true := fun q hq => decide_eq_true (old q hq)
  have frame := below.frame (· ∈ places)
  obtain ⟨w1, w2, w3, w4, w5, frozen, nodup⟩ := id whole
  have tail : ∀ q, q ∈ ([] ++ pa) ++ pv ↔ q ∈ places := fun q => by rw [split]; simp
  refine ⟨ds, gs, places, [], pa, pv, whole, res _ _ _, again_args _ mark, again_vars _ mark, World.keptBut_mono (fun q hq => ⟨hq, .inr (by rw [← List.mem_append, ← split]; exact hq)⟩) frame, fun _ => ?_⟩
  refine ⟨ok, _, _, ([] ++ pa) ++ pv, ⟨[] ++ pa, pv, trodAll_append (again_args _ (fun _ _ => rfl)) (res _ _ _), again_vars _ (fun _ _ => rfl), rfl, fun b off hq => ?_, fun ha => ?_⟩, fun q hq _ => ?_⟩
  · have hin := (tail _).1 hq
    rw [below.frozen (old _ hin)]
    exact frozen b off hin
  · have := nodup ha
    rw [split] at this
    simpa using this
  · exact (tail q).1 hq

theorem godebug_own : ownKnob Try.prog.godebug = none := by kernel_rfl

end Go.Proofs.Ytngbodmooddjbaa

namespace Go.Proofs.Ytngbodmooddjbaa
open Go.RowKit

abbrev Trip := Int × Int × Int
def tripV (x : Trip) : Value := .agg #[.int .i64 x.1, .int .i64 x.2.1, .int .i64 x.2.2]
def intV (n : Int) : Value := .int .i64 n

theorem findAsking_ok {K : Type} [DecidableEq K] {P : Program} {kt : TypeId} {enc : K → Value} (w : World) (k : K) (heq : ∀ a b : K, (Op.equal kt (enc a) (enc b)).run P w = .ok (decide (a = b)) w) :
    ∀ (es : List MapEntry) (ks : List K) (i : Nat), es.map (·.key) = ks.map enc →
      (Instr.findAsking kt (enc k) es i).run P w = .ok ((ks.findIdx? (fun x => decide (x = k))).bind fun j => (es[j]?).map fun e => (i + j, e.val)) w
  | [], ks, i, h => by
    have : ks = [] := by simpa using h.symm
    subst this
    simp [Instr.findAsking]
  | e :: es, [], i, h => by simp at h
  | e :: es, x :: ks, i, h => by
    simp only [List.map_cons, List.cons.injEq] at h
    have ih := findAsking_ok w k heq es ks (i + 1) h.2
    simp only [Instr.findAsking, Sem.run_bind, h.1, heq k x, Result.andThen_ok]
    by_cases hx : x = k
    · subst hx
      simp [List.findIdx?_cons]
    · have hx' : ¬ k = x := fun y => hx y.symm
      simp only [hx', decide_false, Bool.false_eq_true, if_false, ih]
      simp only [List.findIdx?_cons, hx, decide_false, Bool.false_eq_true, if_false]
      cases ks.findIdx? (fun x => decide (x = k)) <;> simp
      rename_i j
      cases es[j]? <;> simp
      omega

theorem keyOk_struct {K : Type} [DecidableEq K] {P : Program} {kt : TypeId} {fs : Array Field} {enc : K → Value} (hu : P.underlying kt = some (.struct fs)) (hagg : ∀ k, ∃ cs, enc k = .agg cs)
    (hc : ∀ (w : World) (em : Bool) (k : K), (Instr.checkKey em 10000 kt (enc k)).run P w = .ok () w)
    (heq : ∀ (w : World) (a b : K), (Op.equal kt (enc a) (enc b)).run P w = .ok (decide (a = b)) w)
    (hb : ∀ k, Instr.sameBits 10000 (enc k) (enc k) = true) : KeyOk P kt enc where
  check := hc
  bits := hb
  find := by
    intro w k es ks h
    have h1 := findAsking_ok w k (heq w) es ks 0 h
    simp only [Instr.findKey, Sem.run_bind, run_underlying hu, Result.andThen_ok]
    cases es with
    | nil =>
      have : ks = [] := by simpa using h.symm
      subst this
      simp [Instr.findNow]
    | cons e es =>
      obtain ⟨c1, e1⟩ := hagg k
      have : Instr.findNow (.struct fs) (enc k) (e :: es) 0 = none := by
        rw [e1]; simp [Instr.findNow, Instr.sameNow]
      rw [this]
      simp only [h1, Nat.zero_add]

theorem findNow_int {q : IntKind} (k : Int) : ∀ (es : List MapEntry) (ks : List Int) (i : Nat), es.map (·.key) = ks.map (Value.int q) →
    Instr.findNow (.int q) (.int q k) es i = some ((ks.findIdx? (fun x => decide (x = k))).bind fun j => (es[j]?).map fun e => (i + j, e.val))
  | [], ks, i, h => by
    have : ks = [] := by simpa using h.symm
    subst this
    simp [Instr.findNow]
  | e :: es, [], i, h => by simp at h
  | e :: es, x :: ks, i, h => by
    simp only [List.map_cons, List.cons.injEq] at h
    have ih := findNow_int k es ks (i + 1) h.2
    by_cases hx : x = k
    · subst hx
      simp [List.findIdx?_cons, Instr.findNow, Instr.sameNow, h.1]
    · have hx' : (k == x) = false := by simpa using fun y => hx (Eq.symm y)
      simp only [Instr.findNow, Instr.sameNow, h.1, if_true, hx', ih]
      simp only [List.findIdx?_cons, hx, decide_false, Bool.false_eq_true, if_false]
      cases ks.findIdx? (fun x => decide (x = k)) <;> simp
      rename_i j
      cases es[j]? <;> simp
      omega

theorem keyOk_int {P : Program} {kt : TypeId} (hu : P.underlying kt = some (.int .i64)) : KeyOk P kt intV where
  check := by
    intro w em k
    rw [show (10000 : Nat) = 9999 + 1 from rfl, intV, Instr.checkKey]
    simp [run_underlying hu]
  bits := by
    intro k
    simp [intV, Instr.sameBits]
  find := by
    intro w k es ks h
    have h1 := findNow_int (q := .i64) k es ks 0 h
    simp only [Instr.findKey, Sem.run_bind, run_underlying hu, Result.andThen_ok, intV, h1, Nat.zero_add]
    simp

theorem sameBits_trip (x : Trip) : Instr.sameBits 10000 (tripV x) (tripV x) = true := by
  rw [show (10000 : Nat) = 9999 + 1 from rfl]
  simp [tripV, Instr.sameBits]

theorem trip_eq (x y : Trip) : (x.1 == y.1 && (x.2.1 == y.2.1 && x.2.2 == y.2.2)) = decide (x = y) := by
  obtain ⟨a, b, c⟩ := x
  obtain ⟨a', b', c'⟩ := y
  rw [Bool.eq_iff_iff]
  simp

theorem keyNode : KeyOk Try.prog 89 tripV :=
  keyOk_struct (fs := Try.prog.fieldsOf 89) (by kernel_rfl) (fun k => ⟨_, rfl⟩) (fun w em k => by unfold tripV; kernel_rfl)
    (fun w a b => by
      rw [← trip_eq]
      unfold tripV
      by_cases h1 : a.1 = b.1 <;> by_cases h2 : a.2.1 = b.2.1 <;> by_cases h3 : a.2.2 = b.2.2 <;> simp [Op.equal, Op.maxDepth, h1, h2, h3] <;> go_simp)
    sameBits_trip

theorem keyTriple : KeyOk Try.prog 183 tripV :=
  keyOk_struct (fs := Try.prog.fieldsOf 183) (by kernel_rfl) (fun k => ⟨_, rfl⟩) (fun w em k => by unfold tripV; kernel_rfl)
    (fun w a b => by
      rw [← trip_eq]
      unfold tripV
      by_cases h1 : a.1 = b.1 <;> by_cases h2 : a.2.1 = b.2.1 <;> by_cases h3 : a.2.2 = b.2.2 <;> simp [Op.equal, Op.maxDepth, h1, h2, h3] <;> go_simp)
    sameBits_trip

theorem keyRef : KeyOk Try.prog 27 intV := keyOk_int Try.underlying27

theorem zeroRef (w : World) : (zeroValue 27).run Try.prog w = .ok (.int .i64 0) w := by kernel_rfl

end Go.Proofs.Ytngbodmooddjbaa

namespace Go.Proofs.Ytngbodmooddjbaa
open Go.RowKit

def natV (n : Nat) : Value := .int .i64 (n : Int)
def ndCells (x : Nd) : List Value := [.int .i64 x.1, .int .i64 (x.2.1 : Int), .int .i64 (x.2.2 : Int)]
abbrev ptr (p : Nat) : Value := .pointer (some ⟨p, 0, none⟩)
/-- No store of nodes grows beyond this. -/
def big : Nat := 4398046511104

structure Lay where
  so : Value
  sl : Value
  sn : Value
  ss : Value
  sf : Value
  bu : Nat
  bm : Nat
  bc : Nat

/-- The blocks that a manager at p owns. -/
def Lay.at (L : Lay) (p : Nat) (k : Nat) : Prop :=
  k = p ∨ k = L.bu ∨ k = L.bm ∨ L.so.ownBlock = some k ∨ L.sl.ownBlock = some k ∨ L.sn.ownBlock = some k ∨ L.ss.ownBlock = some k ∨ L.sf.ownBlock = some k

structure Raw (w : World) (p : Nat) (L : Lay) (order level : List Nat) (nodes : List Nd) (shown : List Bool) (free : List Nat) (U F : Trip → Option Nat) : Prop where
  mgr : w.heap[p]? = some (.cells #[L.so, L.sl, L.sn, L.ss, L.sf, .map (some L.bu), .map (some L.bm), .map (some L.bc)] 95 (0, 0))
  order : w.ownsRow 0 3 1 L.so order.length (order.map natV)
  level : w.ownsRow 0 3 1 L.sl level.length (level.map natV)
  nodes : w.ownsRow 0 89 3 L.sn nodes.length (nodes.flatMap ndCells)
  shown : w.ownsRow 0 4 1 L.ss shown.length (shown.map .bool)
  free : w.ownsRow 0 27 1 L.sf free.length (free.map natV)
  uniq : MapAs w L.bu tripV natV U
  memo : MapAs w L.bm tripV natV F
  ne : L.bu ≠ L.bm

namespace Mgr
/-- What the map 'unique' holds. -/
def uq (M : Mgr) (x : Trip) : Option Nat := if 0 ≤ x.1 ∧ 0 ≤ x.2.1 ∧ 0 ≤ x.2.2 then M.find (x.1, x.2.1.toNat, x.2.2.toNat) else none
/-- What the map 'memo' holds is right. -/
def Sound (M : Mgr) (F : Trip → Option Nat) : Prop := ∀ x r, F x = some r → ∃ f g h : Nat, x = ((f : Int), (g : Int), (h : Int)) ∧ M.stored f ∧ M.stored g ∧ M.stored h ∧ M.stored r ∧
  ∀ a, M.sem r a = if M.sem f a then M.sem g a else M.sem h a

theorem Sound.ext {M M' : Mgr} {F : Trip → Option Nat} (h : M.WF) (s : M.Sound F) (e : Ext M M') : M'.Sound F := by
  intro x r hr
  obtain ⟨f, g, k, hx, sf, sg, sk, sr, hs⟩ := s x r hr
  exact ⟨f, g, k, hx, e.stored sf, e.stored sg, e.stored sk, e.stored sr, fun a => by rw [e.sem h sr, e.sem h sf, e.sem h sg, e.sem h sk, hs]⟩
end Mgr

/-- The manager at p is M. -/
structure Rep (w : World) (p : Nat) (M : Mgr) (L : Lay) : Prop where
  raw : ∃ F, Raw w p L M.order M.level M.nodes M.shown M.free M.uq F ∧ M.Sound F
  wf : M.WF

section
variable {w : World} {p : Nat} {L : Lay} {order level : List Nat} {nodes : List Nd} {shown : List Bool} {free : List Nat} {U F : Trip → Option Nat}

theorem Raw.lt (R : Raw w p L order level nodes shown free U F) : ∀ k, L.at p k → k < w.heap.size := by
  intro k hk
  have row : ∀ {e size v n xs}, w.ownsRow 0 e size v n xs → v.ownBlock = some k → k < w.heap.size := fun h hv => (h.lt k hv).2
  rcases hk with rfl | rfl | rfl | h | h | h | h | h
  · exact heap_lt R.mgr
  · exact R.uniq.lt
  · exact R.memo.lt
  · exact row R.order h
  · exact row R.level h
  · exact row R.nodes h
  · exact row R.shown h
  · exact row R.free h

theorem Raw.kp {A : Nat → Prop} {w' : World} (R : Raw w p L order level nodes shown free U F) (hk : Kp A w w') (hA : ∀ k, A k → ¬ L.at p k) : Raw w' p L order level nodes shown free U F where
  mgr := by rw [hk.block p (heap_lt R.mgr) (fun x => hA p x (.inl rfl))]; exact R.mgr
  order := ownsRow_kp R.order hk (fun k e x => hA k x (by simp [Lay.at, e]))
  level := ownsRow_kp R.level hk (fun k e x => hA k x (by simp [Lay.at, e]))
  nodes := ownsRow_kp R.nodes hk (fun k e x => hA k x (by simp [Lay.at, e]))
  shown := ownsRow_kp R.shown hk (fun k e x => hA k x (by simp [Lay.at, e]))
  free := ownsRow_kp R.free hk (fun k e x => hA k x (by simp [Lay.at, e]))
  uniq := R.uniq.kp hk (fun x => hA _ x (by simp [Lay.at]))
  memo := R.memo.kp hk (fun x => hA _ x (by simp [Lay.at]))
  ne := R.ne

theorem Raw.no {w' : World} (R : Raw w p L order level nodes shown free U F) (hk : Kp No w w') : Raw w' p L order level nodes shown free U F := R.kp hk (fun _ x => x.elim)

/-! the manager's own cells -/
theorem Raw.c0 (R : Raw w p L order level nodes shown free U F) : w.cell? ⟨p, 0, none⟩ = some L.so := by simp [World.cell?, R.mgr]
theorem Raw.c1 (R : Raw w p L order level nodes shown free U F) : w.cell? ⟨p, 1, none⟩ = some L.sl := by simp [World.cell?, R.mgr]
theorem Raw.c2 (R : Raw w p L order level nodes shown free U F) : w.cell? ⟨p, 2, none⟩ = some L.sn := by simp [World.cell?, R.mgr]
theorem Raw.c3 (R : Raw w p L order level nodes shown free U F) : w.cell? ⟨p, 3, none⟩ = some L.ss := by simp [World.cell?, R.mgr]
theorem Raw.c4 (R : Raw w p L order level nodes shown free U F) : w.cell? ⟨p, 4, none⟩ = some L.sf := by simp [World.cell?, R.mgr]
theorem Raw.c5 (R : Raw w p L order level nodes shown free U F) : w.cell? ⟨p, 5, none⟩ = some (.map (some L.bu)) := by simp [World.cell?, R.mgr]
theorem Raw.c6 (R : Raw w p L order level nodes shown free U F) : w.cell? ⟨p, 6, none⟩ = some (.map (some L.bm)) := by simp [World.cell?, R.mgr]
theorem Raw.fz (R : Raw w p L order level nodes shown free U F) (i : Nat) : w.frozen? ⟨p, i, none⟩ = false := by simp [World.frozen?, R.mgr]
theorem Raw.plt (R : Raw w p L order level nodes shown free U F) : p < w.heap.size := heap_lt R.mgr

/-- Blocks that hold rows of different types, or maps, are different. -/
theorem row_ne {w : World} {e1 e2 s1 s2 n1 n2 : Nat} {v1 v2 : Value} {x1 x2 : List Value} (h1 : w.ownsRow 0 e1 s1 v1 n1 x1) (h2 : w.ownsRow 0 e2 s2 v2 n2 x2) (he : e1 ≠ e2) {k : Nat} (hk : v1.ownBlock = some k) : v2.ownBlock ≠ some k := by
  intro hk2
  obtain ⟨c1, g1⟩ := ownsRow_block h1 hk
  obtain ⟨c2, g2⟩ := ownsRow_block h2 hk2
  rw [g1] at g2
  cases g2
  exact he rfl
theorem row_map {K V : Type} [DecidableEq K] {w : World} {e1 s1 n1 b : Nat} {v1 : Value} {x1 : List Value} {enc : K → Value} {ev : V → Value} {f : K → Option V} (h1 : w.ownsRow 0 e1 s1 v1 n1 x1) (h2 : MapAs w b enc ev f) : v1.ownBlock ≠ some b := by
  intro hk
  obtain ⟨c1, g1⟩ := ownsRow_block h1 hk
  obtain ⟨es, cl, g2, _⟩ := h2
  rw [g1] at g2
  cases g2
theorem Raw.map_ne {K V : Type} [DecidableEq K] {b : Nat} {enc : K → Value} {ev : V → Value} {f : K → Option V} (R : Raw w p L order level nodes shown free U F) (h2 : MapAs w b enc ev f) : b ≠ p := by
  intro e
  obtain ⟨es, cl, g2, _⟩ := h2
  rw [e, R.mgr] at g2
  cases g2
theorem Raw.row_mgr {e1 s1 n1 : Nat} {v1 : Value} {x1 : List Value} (R : Raw w p L order level nodes shown free U F) (h1 : w.ownsRow 0 e1 s1 v1 n1 x1) (he : e1 ≠ 95) : v1.ownBlock ≠ some p := by
  intro hk
  obtain ⟨c1, g1⟩ := ownsRow_block h1 hk
  rw [R.mgr] at g1
  cases g1
  exact he rfl

theorem setCell_heap {w : World} {k i : Nat} {c : Array Value} {t : TypeId} {fr : Nat × Nat} (h : w.heap[k]? = some (.cells c t fr)) (v : Value) :
    (w.setCell ⟨k, i, none⟩ v).heap[k]? = some (.cells (c.setIfInBounds i v) t fr) := by
  simp [World.setCell, Array.getElem?_modify, h]

theorem ownsRow_set {w : World} {e size n : Nat} {v : Value} {xs : List Value} (h : w.ownsRow 0 e size v n xs) {p i : Nat} {u : Value} (hn : v.ownBlock ≠ some p) : (w.setCell ⟨p, i, none⟩ u).ownsRow 0 e size v n xs :=
  ownsRow_kp h (Kp.setCell _ _) (fun k e x => hn (by rw [e]; exact congrArg some x))

/-- The field 'nodes' is set. -/
theorem Raw.setNodes {nodes' : List Nd} {v : Value} (R : Raw w p L order level nodes shown free U F) (h : w.ownsRow 0 89 3 v nodes'.length (nodes'.flatMap ndCells)) :
    Raw (w.setCell ⟨p, 2, none⟩ v) p { L with sn := v } order level nodes' shown free U F where
  mgr := by rw [setCell_heap R.mgr]; rfl
  order := ownsRow_set R.order (R.row_mgr R.order (by decide))
  level := ownsRow_set R.level (R.row_mgr R.level (by decide))
  nodes := ownsRow_set h (R.row_mgr h (by decide))
  shown := ownsRow_set R.shown (R.row_mgr R.shown (by decide))
  free := ownsRow_set R.free (R.row_mgr R.free (by decide))
  uniq := R.uniq.kp (Kp.setCell _ _) (fun x => R.map_ne R.uniq x)
  memo := R.memo.kp (Kp.setCell _ _) (fun x => R.map_ne R.memo x)
  ne := R.ne

/-- The field 'shown' is set. -/
theorem Raw.setShown {shown' : List Bool} {v : Value} (R : Raw w p L order level nodes shown free U F) (h : w.ownsRow 0 4 1 v shown'.length (shown'.map .bool)) :
    Raw (w.setCell ⟨p, 3, none⟩ v) p { L with ss := v } order level nodes shown' free U F where
  mgr := by rw [setCell_heap R.mgr]; rfl
  order := ownsRow_set R.order (R.row_mgr R.order (by decide))
  level := ownsRow_set R.level (R.row_mgr R.level (by decide))
  nodes := ownsRow_set R.nodes (R.row_mgr R.nodes (by decide))
  shown := ownsRow_set h (R.row_mgr h (by decide))
  free := ownsRow_set R.free (R.row_mgr R.free (by decide))
  uniq := R.uniq.kp (Kp.setCell _ _) (fun x => R.map_ne R.uniq x)
  memo := R.memo.kp (Kp.setCell _ _) (fun x => R.map_ne R.memo x)
  ne := R.ne

/-- The field 'free' is set. -/
theorem Raw.setFree {free' : List Nat} {v : Value} (R : Raw w p L order level nodes shown free U F) (h : w.ownsRow 0 27 1 v free'.length (free'.map natV)) :
    Raw (w.setCell ⟨p, 4, none⟩ v) p { L with sf := v } order level nodes shown free' U F where
  mgr := by rw [setCell_heap R.mgr]; rfl
  order := ownsRow_set R.order (R.row_mgr R.order (by decide))
  level := ownsRow_set R.level (R.row_mgr R.level (by decide))
  nodes := ownsRow_set R.nodes (R.row_mgr R.nodes (by decide))
  shown := ownsRow_set R.shown (R.row_mgr R.shown (by decide))
  free := ownsRow_set h (R.row_mgr h (by decide))
  uniq := R.uniq.kp (Kp.setCell _ _) (fun x => R.map_ne R.uniq x)
  memo := R.memo.kp (Kp.setCell _ _) (fun x => R.map_ne R.memo x)
  ne := R.ne

/-- The field 'memo' is set to another map. -/
theorem Raw.setMemo {b : Nat} {F' : Trip → Option Nat} (R : Raw w p L order level nodes shown free U F) (h : MapAs w b tripV natV F') (hb : L.bu ≠ b) :
    Raw (w.setCell ⟨p, 6, none⟩ (.map (some b))) p { L with bm := b } order level nodes shown free U F' where
  mgr := by rw [setCell_heap R.mgr]; rfl
  order := ownsRow_set R.order (R.row_mgr R.order (by decide))
  level := ownsRow_set R.level (R.row_mgr R.level (by decide))
  nodes := ownsRow_set R.nodes (R.row_mgr R.nodes (by decide))
  shown := ownsRow_set R.shown (R.row_mgr R.shown (by decide))
  free := ownsRow_set R.free (R.row_mgr R.free (by decide))
  uniq := R.uniq.kp (Kp.setCell _ _) (fun x => R.map_ne R.uniq x)
  memo := h.kp (Kp.setCell _ _) (fun x => R.map_ne h x)
  ne := hb

/-- A map of the manager's is updated. -/
theorem Raw.setUniq {w' : World} {U' : Trip → Option Nat} (R : Raw w p L order level nodes shown free U F) (h : MapAs w' L.bu tripV natV U') (hk : Kp (fun x => x = L.bu) w w') :
    Raw w' p L order level nodes shown free U' F where
  mgr := by rw [hk.block p R.plt (fun x => R.map_ne R.uniq x.symm)]; exact R.mgr
  order := ownsRow_kp R.order hk (fun k e x => row_map R.order R.uniq (by rw [e, x]))
  level := ownsRow_kp R.level hk (fun k e x => row_map R.level R.uniq (by rw [e, x]))
  nodes := ownsRow_kp R.nodes hk (fun k e x => row_map R.nodes R.uniq (by rw [e, x]))
  shown := ownsRow_kp R.shown hk (fun k e x => row_map R.shown R.uniq (by rw [e, x]))
  free := ownsRow_kp R.free hk (fun k e x => row_map R.free R.uniq (by rw [e, x]))
  uniq := h
  memo := R.memo.kp hk (fun x => R.ne x.symm)
  ne := R.ne

theorem Raw.updMemo {w' : World} {F' : Trip → Option Nat} (R : Raw w p L order level nodes shown free U F) (h : MapAs w' L.bm tripV natV F') (hk : Kp (fun x => x = L.bm) w w') :
    Raw w' p L order level nodes shown free U F' where
  mgr := by rw [hk.block p R.plt (fun x => R.map_ne R.memo x.symm)]; exact R.mgr
  order := ownsRow_kp R.order hk (fun k e x => row_map R.order R.memo (by rw [e, x]))
  level := ownsRow_kp R.level hk (fun k e x => row_map R.level R.memo (by rw [e, x]))
  nodes := ownsRow_kp R.nodes hk (fun k e x => row_map R.nodes R.memo (by rw [e, x]))
  shown := ownsRow_kp R.shown hk (fun k e x => row_map R.shown R.memo (by rw [e, x]))
  free := ownsRow_kp R.free hk (fun k e x => row_map R.free R.memo (by rw [e, x]))
  uniq := R.uniq.kp hk (fun x => R.ne x)
  memo := h
  ne := R.ne

/-- Behind an append (or a store) to the row of 'nodes', the field not yet set. -/
theorem Raw.kpNodes {w' : World} (R : Raw w p L order level nodes shown free U F) (hk : Kp (fun k => L.sn.ownBlock = some k) w w') (nodes' : List Nd)
    (hn : w'.ownsRow 0 89 3 L.sn nodes'.length (nodes'.flatMap ndCells)) : Raw w' p L order level nodes' shown free U F where
  mgr := by rw [hk.block p R.plt (R.row_mgr R.nodes (by decide))]; exact R.mgr
  order := ownsRow_kp R.order hk (fun k e x => row_ne R.order R.nodes (by decide) e x)
  level := ownsRow_kp R.level hk (fun k e x => row_ne R.level R.nodes (by decide) e x)
  nodes := hn
  shown := ownsRow_kp R.shown hk (fun k e x => row_ne R.shown R.nodes (by decide) e x)
  free := ownsRow_kp R.free hk (fun k e x => row_ne R.free R.nodes (by decide) e x)
  uniq := R.uniq.kp hk (row_map R.nodes R.uniq)
  memo := R.memo.kp hk (row_map R.nodes R.memo)
  ne := R.ne

theorem Raw.kpShown {w' : World} (R : Raw w p L order level nodes shown free U F) (hk : Kp (fun k => L.ss.ownBlock = some k) w w') (shown' : List Bool)
    (hn : w'.ownsRow 0 4 1 L.ss shown'.length (shown'.map .bool)) : Raw w' p L order level nodes shown' free U F where
  mgr := by rw [hk.block p R.plt (R.row_mgr R.shown (by decide))]; exact R.mgr
  order := ownsRow_kp R.order hk (fun k e x => row_ne R.order R.shown (by decide) e x)
  level := ownsRow_kp R.level hk (fun k e x => row_ne R.level R.shown (by decide) e x)
  nodes := ownsRow_kp R.nodes hk (fun k e x => row_ne R.nodes R.shown (by decide) e x)
  shown := hn
  free := ownsRow_kp R.free hk (fun k e x => row_ne R.free R.shown (by decide) e x)
  uniq := R.uniq.kp hk (row_map R.shown R.uniq)
  memo := R.memo.kp hk (row_map R.shown R.memo)
  ne := R.ne

/-- The same with the field set behind the append. -/
theorem Raw.pushNodes {w' : World} {v : Value} (R : Raw w p L order level nodes shown free U F) (hk : Kp (fun k => L.sn.ownBlock = some k) w w') (nodes' : List Nd)
    (hn : w'.ownsRow 0 89 3 v nodes'.length (nodes'.flatMap ndCells)) : Raw (w'.setCell ⟨p, 2, none⟩ v) p { L with sn := v } order level nodes' shown free U F := by
  have mg : w'.heap[p]? = _ := (hk.block p R.plt (R.row_mgr R.nodes (by decide))).trans R.mgr
  have np : v.ownBlock ≠ some p := fun e => by
    obtain ⟨c1, g1⟩ := ownsRow_block hn e
    rw [mg] at g1
    cases g1
  have row : ∀ {e s n u x}, e ≠ 89 → e ≠ 95 → w.ownsRow 0 e s u n x → (w'.setCell ⟨p, 2, none⟩ v).ownsRow 0 e s u n x := fun h1 h2 h =>
    ownsRow_set (ownsRow_kp h hk (fun k e x => row_ne h R.nodes h1 e x)) (R.row_mgr h h2)
  exact {
    mgr := by rw [setCell_heap mg]; rfl
    order := row (by decide) (by decide) R.order
    level := row (by decide) (by decide) R.level
    nodes := ownsRow_set hn np
    shown := row (by decide) (by decide) R.shown
    free := row (by decide) (by decide) R.free
    uniq := (R.uniq.kp hk (row_map R.nodes R.uniq)).kp (Kp.setCell _ _) (fun x => R.map_ne R.uniq x)
    memo := (R.memo.kp hk (row_map R.nodes R.memo)).kp (Kp.setCell _ _) (fun x => R.map_ne R.memo x)
    ne := R.ne }

theorem Raw.pushShown {w' : World} {v : Value} (R : Raw w p L order level nodes shown free U F) (hk : Kp (fun k => L.ss.ownBlock = some k) w w') (shown' : List Bool)
    (hn : w'.ownsRow 0 4 1 v shown'.length (shown'.map .bool)) : Raw (w'.setCell ⟨p, 3, none⟩ v) p { L with ss := v } order level nodes shown' free U F := by
  have mg : w'.heap[p]? = _ := (hk.block p R.plt (R.row_mgr R.shown (by decide))).trans R.mgr
  have np : v.ownBlock ≠ some p := fun e => by
    obtain ⟨c1, g1⟩ := ownsRow_block hn e
    rw [mg] at g1
    cases g1
  have row : ∀ {e s n u x}, e ≠ 4 → e ≠ 95 → w.ownsRow 0 e s u n x → (w'.setCell ⟨p, 3, none⟩ v).ownsRow 0 e s u n x := fun h1 h2 h =>
    ownsRow_set (ownsRow_kp h hk (fun k e x => row_ne h R.shown h1 e x)) (R.row_mgr h h2)
  exact {
    mgr := by rw [setCell_heap mg]; rfl
    order := row (by decide) (by decide) R.order
    level := row (by decide) (by decide) R.level
    nodes := row (by decide) (by decide) R.nodes
    shown := ownsRow_set hn np
    free := row (by decide) (by decide) R.free
    uniq := (R.uniq.kp hk (row_map R.shown R.uniq)).kp (Kp.setCell _ _) (fun x => R.map_ne R.uniq x)
    memo := (R.memo.kp hk (row_map R.shown R.memo)).kp (Kp.setCell _ _) (fun x => R.map_ne R.memo x)
    ne := R.ne }

end

/-! ### the cells of a list of nodes -/
theorem ndCells_get (l : List Nd) (f j : Nat) (x : Nd) (h : l[f]? = some x) (hj : j < 3) : (l.flatMap ndCells)[f * 3 + j]? = (ndCells x)[j]? := by
  induction l generalizing f with
  | nil => simp at h
  | cons y l ih =>
    cases f with
    | zero =>
      simp at h; subst h
      rw [List.flatMap_cons, List.getElem?_append_left (by simp [ndCells]; omega)]
      simp
    | succ f =>
      simp at h
      rw [List.flatMap_cons, List.getElem?_append_right (by simp [ndCells]; omega)]
      have : (f + 1) * 3 + j - (ndCells y).length = f * 3 + j := by simp [ndCells]; omega
      rw [this]
      exact ih f h

theorem flat_length (l : List Nd) : (l.flatMap ndCells).length = l.length * 3 := by
  induction l with
  | nil => rfl
  | cons y l ih => rw [List.flatMap_cons, List.length_append, ih]; simp [ndCells]; omega

theorem nd_get {M : Mgr} {f : Nat} (h : f < M.nodes.length) : M.nodes[f]? = some (M.nd f) := by
  simp [Mgr.nd, h]

/-- What a call leaves behind that changes the manager at p alone. -/
def Ret (p : Nat) (L : Lay) (w : World) (M' : Mgr) (v : Value) (e : Ending) (w' : World) : Prop :=
  ∃ L', e = .returned v ∧ Rep w' p M' L' ∧ Kp (L.at p) w w' ∧ Fresh (L.at p) (L'.at p) w

end Go.Proofs.Ytngbodmooddjbaa
