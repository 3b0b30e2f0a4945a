/-
  The key types of the program's maps: structs of three integers, and integers.
-/
import Derived.Test.YtgglkldoclejaaaDoorMaps
namespace Go.Proofs.YtgglkldoclejaaaDoor
open Go.RowKit

abbrev Trip := Int × Int × Int
def tripV (x : Trip) : Value := .agg #[.int .i64 x.1, .int .i64 x.2.1, .int .i64 x.2.2]
def intV (n : Int) : Value := .int .i64 n

theorem findAsking_ok {K : Type} [DecidableEq K] {P : Program} {kt : TypeId} {enc : K → Value} (w : World) (k : K) (heq : ∀ a b : K, (Op.equal kt (enc a) (enc b)).run P w = .ok (decide (a = b)) w) :
    ∀ (es : List MapEntry) (ks : List K) (i : Nat), es.map (·.key) = ks.map enc →
      (Instr.findAsking kt (enc k) es i).run P w = .ok ((ks.findIdx? (fun x => decide (x = k))).bind fun j => (es[j]?).map fun e => (i + j, e.val)) w
  | [], ks, i, h => by
    have : ks = [] := by simpa using h.symm
    subst this
    simp [Instr.findAsking]
  | e :: es, [], i, h => by simp at h
  | e :: es, x :: ks, i, h => by
    simp only [List.map_cons, List.cons.injEq] at h
    have ih := findAsking_ok w k heq es ks (i + 1) h.2
    simp only [Instr.findAsking, Sem.run_bind, h.1, heq k x, Result.andThen_ok]
    by_cases hx : x = k
    · subst hx
      simp [List.findIdx?_cons]
    · have hx' : ¬ k = x := fun y => hx y.symm
      simp only [hx', decide_false, Bool.false_eq_true, if_false, ih]
      simp only [List.findIdx?_cons, hx, decide_false, Bool.false_eq_true, if_false]
      cases ks.findIdx? (fun x => decide (x = k)) <;> simp
      rename_i j
      cases es[j]? <;> simp
      omega

theorem keyOk_struct {K : Type} [DecidableEq K] {P : Program} {kt : TypeId} {fs : Array Field} {enc : K → Value} (hu : P.underlying kt = some (.struct fs)) (hagg : ∀ k, ∃ cs, enc k = .agg cs)
    (hc : ∀ (w : World) (em : Bool) (k : K), (Instr.checkKey em 10000 kt (enc k)).run P w = .ok () w)
    (heq : ∀ (w : World) (a b : K), (Op.equal kt (enc a) (enc b)).run P w = .ok (decide (a = b)) w)
    (hb : ∀ k, Instr.sameBits 10000 (enc k) (enc k) = true) : KeyOk P kt enc where
  check := hc
  bits := hb
  find := by
    intro w k es ks h
    have h1 := findAsking_ok w k (heq w) es ks 0 h
    simp only [Instr.findKey, Sem.run_bind, run_underlying hu, Result.andThen_ok]
    cases es with
    | nil =>
      have : ks = [] := by simpa using h.symm
      subst this
      simp [Instr.findNow]
    | cons e es =>
      obtain ⟨c1, e1⟩ := hagg k
      have : Instr.findNow (.struct fs) (enc k) (e :: es) 0 = none := by
        rw [e1]; simp [Instr.findNow, Instr.sameNow]
      rw [this]
      simp only [h1, Nat.zero_add]

theorem findNow_int {q : IntKind} (k : Int) : ∀ (es : List MapEntry) (ks : List Int) (i : Nat), es.map (·.key) = ks.map (Value.int q) →
    Instr.findNow (.int q) (.int q k) es i = some ((ks.findIdx? (fun x => decide (x = k))).bind fun j => (es[j]?).map fun e => (i + j, e.val))
  | [], ks, i, h => by
    have : ks = [] := by simpa using h.symm
    subst this
    simp [Instr.findNow]
  | e :: es, [], i, h => by simp at h
  | e :: es, x :: ks, i, h => by
    simp only [List.map_cons, List.cons.injEq] at h
    have ih := findNow_int k es ks (i + 1) h.2
    by_cases hx : x = k
    · subst hx
      simp [List.findIdx?_cons, Instr.findNow, Instr.sameNow, h.1]
    · have hx' : (k == x) = false := by simpa using fun y => hx (Eq.symm y)
      simp only [Instr.findNow, Instr.sameNow, h.1, if_true, hx', ih]
      simp only [List.findIdx?_cons, hx, decide_false, Bool.false_eq_true, if_false]
      cases ks.findIdx? (fun x => decide (x = k)) <;> simp
      rename_i j
      cases es[j]? <;> simp
      omega

theorem keyOk_int {P : Program} {kt : TypeId} (hu : P.underlying kt = some (.int .i64)) : KeyOk P kt intV where
  check := by
    intro w em k
    rw [show (10000 : Nat) = 9999 + 1 from rfl, intV, Instr.checkKey]
    simp [run_underlying hu]
  bits := by
    intro k
    simp [intV, Instr.sameBits]
  find := by
    intro w k es ks h
    have h1 := findNow_int (q := .i64) k es ks 0 h
    simp only [Instr.findKey, Sem.run_bind, run_underlying hu, Result.andThen_ok, intV, h1, Nat.zero_add]
    simp

theorem sameBits_trip (x : Trip) : Instr.sameBits 10000 (tripV x) (tripV x) = true := by
  rw [show (10000 : Nat) = 9999 + 1 from rfl]
  simp [tripV, Instr.sameBits]

theorem trip_eq (x y : Trip) : (x.1 == y.1 && (x.2.1 == y.2.1 && x.2.2 == y.2.2)) = decide (x = y) := by
  obtain ⟨a, b, c⟩ := x
  obtain ⟨a', b', c'⟩ := y
  rw [Bool.eq_iff_iff]
  simp

theorem keyNode : KeyOk Tryd.prog 107 tripV :=
  keyOk_struct (fs := Tryd.prog.fieldsOf 107) (by kernel_rfl) (fun k => ⟨_, rfl⟩) (fun w em k => by unfold tripV; kernel_rfl)
    (fun w a b => by
      rw [← trip_eq]
      unfold tripV
      by_cases h1 : a.1 = b.1 <;> by_cases h2 : a.2.1 = b.2.1 <;> by_cases h3 : a.2.2 = b.2.2 <;> simp [Op.equal, Op.maxDepth, h1, h2, h3] <;> go_simp)
    sameBits_trip

theorem keyTriple : KeyOk Tryd.prog 129 tripV :=
  keyOk_struct (fs := Tryd.prog.fieldsOf 129) (by kernel_rfl) (fun k => ⟨_, rfl⟩) (fun w em k => by unfold tripV; kernel_rfl)
    (fun w a b => by
      rw [← trip_eq]
      unfold tripV
      by_cases h1 : a.1 = b.1 <;> by_cases h2 : a.2.1 = b.2.1 <;> by_cases h3 : a.2.2 = b.2.2 <;> simp [Op.equal, Op.maxDepth, h1, h2, h3] <;> go_simp)
    sameBits_trip

theorem keyRef : KeyOk Tryd.prog 43 intV := keyOk_int Tryd.underlying43

theorem zeroRef (w : World) : (zeroValue 43).run Tryd.prog w = .ok (.int .i64 0) w := by kernel_rfl

end Go.Proofs.YtgglkldoclejaaaDoor
