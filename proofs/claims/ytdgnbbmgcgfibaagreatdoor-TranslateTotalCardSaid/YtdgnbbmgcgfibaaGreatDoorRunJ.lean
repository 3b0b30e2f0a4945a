/-
  The arguments of the laws: what they read as, and that they read behind the call as before.
-/
import Derived.Test.YtdgnbbmgcgfibaaGreatDoorQ
import Derived.Test.YtdgnbbmgcgfibaaGreatDoorRep
import Derived.Deep.Slices
import Derived.Deep.Fields
namespace Go.Proofs.YtdgnbbmgcgfibaaGreatDoor

abbrev BF := (Nat → Bool) → Bool

/-! ### the order of the variables is kept -/
namespace Mgr
end Mgr
end Go.Proofs.YtdgnbbmgcgfibaaGreatDoor

namespace Go.Proofs.YtdgnbbmgcgfibaaGreatDoor
open Go.RowKit

theorem ownsRow_mono {w : World} {B B' e size n : Nat} {v : Value} {xs : List Value} (h : w.ownsRow B e size v n xs) (hb : B' ≤ B) : w.ownsRow B' e size v n xs := by
  refine ⟨h.1, ?_⟩
  rcases h.2 with x | ⟨g, cap, cur, hv, hg, r⟩
  · exact .inl x
  · exact .inr ⟨g, cap, cur, hv, Nat.le_trans hb hg, r⟩

section
variable {w : World} {p n : Nat} {L0 : Lay} {wr w' : World} {M M' : Mgr} {L : Lay} {fv tv : Value} {fs : List Int} {Fs : List BF} {tvs : List Value}

end

end Go.Proofs.YtdgnbbmgcgfibaaGreatDoor

namespace Go.Proofs.YtdgnbbmgcgfibaaGreatDoor
open Go.ChangeShapes Go.WideShapes Go.ChangeAt Go.RowKit Go.Deep

theorem laidOut : laidOutB Tryz.prog = true := by kernel_rfl

section
variable {H : Type} {enc : TypeId × Value → H} {P : Program}

/-- The arguments read as they did. -/
theorem trodAll_stays (hl : laidOutB P = true) {W W' : World} {sp : Nat → Bool} : ∀ {ts : List TypeId} {vs : List Value} {ds : List (DataW H)} {ps : List MemPlace}, (∀ t ∈ ts, P.readableRec t = true ∧ t < P.types.size) →
    DataW.TrodAll enc P W 0 (fun _ => true) true ts vs ds ps → (∀ p ∈ ps, W.sameAt W' p) → (∀ p ∈ ps, sp p.block = true) → DataW.TrodAll enc P W' 0 sp true ts vs ds ps
  | [], _, _, _, _, h, _, _ => by
    obtain ⟨rfl, rfl, rfl⟩ := trodAll_nil h
    exact trodAll_mk0
  | t :: ts, _, _, _, hr, h, hs, hp => by
    obtain ⟨v, vs1, d, ds1, a, b, rfl, rfl, rfl, h1, h2⟩ := trodAll_cons h
    exact trodAll_cons_mk (WideElems.Trod_stays hl (hr t (by simp)).1 (hr t (by simp)).2 h1 (fun p hp' => hs p (by simp [hp'])) (fun p hp' => hp p (by simp [hp'])))
      (trodAll_stays hl (fun t ht => hr t (by simp [ht])) h2 (fun p hp' => hs p (by simp [hp'])) (fun p hp' => hp p (by simp [hp'])))

/-- A slice whose elements are numbers, k cells each. -/
def NumsAt (w : World) (v : Value) (k : Nat) (kd : Nat → IntKind) (len : Nat) (c : Nat → Nat → Int) : Prop :=
  ∃ ao cap, v = .slice ao len cap ∧ len ≤ maxLen ∧ (len = 0 ∨ ∃ g o, ao = some ⟨g, o, none⟩ ∧ g < w.heap.size ∧ ∀ i, i < len → ∀ j, j < k → w.cell? ⟨g, o + (i * k + j), none⟩ = some (.int (kd j) (c i j)) ∧ (Lit.int (kd j) (c i j)).wf = true)

def isInt (P : Program) (t : TypeId) (k : IntKind) : Bool := match P.underlying t with | some (.int q) => decide (q = k) | _ => false
theorem isInt_of {t : TypeId} {k : IntKind} (h : isInt P t k = true) : P.underlying t = some (.int k) := by
  unfold isInt at h
  split at h
  · rename_i q hq; rw [hq, of_decide_eq_true h]
  · cases h
/-- All fields are numbers of these kinds. -/
def fieldInts (P : Program) (fs : Array Field) (kd : Nat → IntKind) : Bool := (List.range fs.size).all fun i => match fs[i]? with
  | some f => isInt P f.type (kd i)
  | none => false
theorem fieldInts_of {fs : Array Field} {kd : Nat → IntKind} (h : fieldInts P fs kd = true) : ∀ (j : Nat) (f : Field), fs[j]? = some f → P.underlying f.type = some (.int (kd j)) := by
  intro i f hi
  have hlt : i < fs.size := (Array.getElem?_eq_some_iff.1 hi).1
  have := List.all_eq_true.1 h i (List.mem_range.2 hlt)
  simp only [hi] at this
  exact isInt_of this

def numAt (w : World) (a : Addr) : Int := match w.cell? a with | some (.int _ n) => n | _ => 0

theorem open_nums {w : World} {sp : Nat → Bool} {held : Bool} {r : Reach} {b0 : Nat} {t e : TypeId} {fs : Array Field} {kd : Nat → IntKind} {v : Value} {d : DataW H} {ps : List MemPlace} (ht : P.underlying t = some (.slice e)) (he : P.underlying e = some (.struct fs))
    (hone : oneCellFields P fs = true) (hC : P.cellsOf e = fs.size) (hk0 : fieldInts P fs kd = true) {k : Nat} (hsz : fs.size = k) (h0 : 0 < k) (hv : Value.okWide P w r b0 t v) (h : DataW.Trod enc P w 0 sp held t v d ps) :
    ∃ len c, NumsAt w v k kd len c := by
  subst hsz
  have hf := fieldInts_of hk0
  obtain ⟨ao, len, cap, rfl⟩ := okWide_slice ht hv
  obtain ⟨fuel, h⟩ := h
  rcases open_slice ht h with ⟨hcs, _⟩ | ⟨a, len', cap', m, n, D, Pl, hcs, hb, hl, hm, hmm, hx, hi⟩
  · simp [Value.cells] at hcs
    obtain ⟨rfl, rfl, rfl⟩ := hcs
    exact ⟨0, fun _ _ => 0, none, 0, rfl, by simp, .inl rfl⟩
  · simp [Value.cells] at hcs
    obtain ⟨rfl, rfl, rfl⟩ := hcs
    refine ⟨len, fun i j => numAt w (a.add (i * fs.size + j)), some a, cap, rfl, Nat.le_trans hl hm, ?_⟩
    rcases Nat.eq_zero_or_pos len with e0 | e0
    · exact .inl e0
    · right
      have hlm : len ≤ m := by rw [hmm]; split <;> omega
      have cells : ∀ i, i < m → ∀ j, j < fs.size → ∃ x, w.cell? (a.add (i * fs.size + j)) = some (.int (kd j) x) ∧ (Lit.int (kd j) x).wf = true := by
        intro i him j hj
        obtain ⟨cs', hc, ht'⟩ := hi i him
        rw [hC] at hc
        obtain ⟨ys, n', hn', hy, hlen, hyl, hff⟩ := DataW.trod_struct he ht'
        obtain ⟨_, hcl, hat⟩ := World.cells?_some hc
        have hg : fs[j]? = some fs[j] := by simp [hj]
        obtain ⟨ho, hk⟩ := hone_of hone j _ hg
        have h1 := hff j _ hg
        rw [ho, hk, List.drop_eq_getElem_cons (by omega)] at h1
        have hys : ys[j]? = some (ys[j]'(by omega)) := List.getElem?_eq_getElem (by omega)
        rw [hys] at h1
        have h1' : DataW.trod enc P w 0 sp held n' fs[j].type [cs'[j]'(by omega)] = some (ys[j]'(by omega)) := h1
        obtain ⟨x, hx1, _, hwf⟩ := DataW.trod_int (hf j _ hg) h1'
        have hcell := hat j hj
        simp only [List.cons.injEq, and_true] at hx1
        refine ⟨x, ?_, hwf⟩
        rw [← Go.Deep.add_add, hcell, List.getElem?_eq_getElem (by omega), hx1]
      obtain ⟨g, o, spot⟩ := a
      obtain ⟨x0, hx0, _⟩ := cells 0 (by omega) 0 h0
      have hspot : spot = none := by simpa [Addr.add] using World.cell?_spot hx0
      subst hspot
      have hlt := World.block_lt_of_cell? _ _ hx0
      refine ⟨g, o, rfl, by simpa [Addr.add] using hlt, fun i hi' j hj => ?_⟩
      obtain ⟨x, hx1, hx2⟩ := cells i (by omega) j hj
      have e : (Addr.mk g o none).add (i * fs.size + j) = ⟨g, o + (i * fs.size + j), none⟩ := Go.WideShapes.add_plain ..
      rw [e] at hx1
      simp only [e]
      have e2 : numAt w ⟨g, o + (i * fs.size + j), none⟩ = x := by simp [numAt, hx1]
      rw [e2]
      exact ⟨hx1, hx2⟩
end

end Go.Proofs.YtdgnbbmgcgfibaaGreatDoor
