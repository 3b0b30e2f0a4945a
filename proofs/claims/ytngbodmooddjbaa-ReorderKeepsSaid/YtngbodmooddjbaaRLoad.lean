/-
  Walks: 'Load' of the reference netverifyref26.
-/
import Derived.Test.YtngbodmooddjbaaLoad
import Derived.Test.YtngbodmooddjbaaRunJ
namespace Go.Proofs.Ytngbodmooddjbaa
open Go.RowKit

theorem info_func' : (Try.prog.info? 45).map (fun i => (i.zero, i.size, i.bytes)) = some (some (.slice none 0 0), 1, 24) := by kernel_rfl

/-- A list of tables in memory, made since w. -/
structure TabsJ (w : World) (n : Nat) (x : World) (lv : Value) (tvs : List Value) (Fs : List BF) : Prop where
  kp : Kp No w x
  row : x.ownsRow w.heap.size 45 1 lv tvs.length tvs
  len : Fs.length = tvs.length
  tabs : ∀ (i : Nat) (t : Value) (F : BF), tvs[i]? = some t → Fs[i]? = some F → Tb w.heap.size x t (tab n F)

section
variable {w : World} {n : Nat} {x y : World} {lv : Value} {tvs : List Value} {Fs : List BF}
theorem TabsJ.no (j : TabsJ w n x lv tvs Fs) (k : Kp No x y) : TabsJ w n y lv tvs Fs := ⟨j.kp.trans_no k, ownsRow_kp j.row k (fun _ _ z => z), j.len, fun i t F h1 h2 => (j.tabs i t F h1 h2).no k⟩
theorem TabsJ.at (j : TabsJ w n x lv tvs Fs) {i : Nat} (hi : i < tvs.length) : Tb w.heap.size x (tvs.getD i (.bool false)) (Go.Proofs.Ytngbodmooddjbaa.tab n (Fs.getD i (fun _ => false))) := by
  have h2 := j.len
  exact j.tabs i _ _ (by simp [hi]) (by simp [show i < Fs.length by omega])
theorem TabsJ.cell {g m c : Nat} (j : TabsJ w n x (.slice (some ⟨g, 0, none⟩) m c) tvs Fs) {i : Nat} (hi : i < tvs.length) : x.cell? ⟨g, i, none⟩ = some (tvs.getD i (.bool false)) := by
  obtain ⟨g', cap, hv, _, _, _, hc, _⟩ := ownsRow_open j.row (by omega)
  cases hv
  exact hc i _ (by simp [hi])
theorem TabsJ.push {A : World} {g cap : Nat} {t : Value} {F : BF} (j : TabsJ w n x lv tvs Fs) (ht : Tb w.heap.size x t (Go.Proofs.Ytngbodmooddjbaa.tab n F)) (kA : Kp No x A) (hown : y.ownsRow w.heap.size 45 1 (.slice (some ⟨g, 0, none⟩) (tvs.length + 1) cap) (tvs.length + 1) (tvs ++ [t])) (hgrow : A.grownBy y lv.ownBlock) :
    TabsJ w n y (.slice (some ⟨g, 0, none⟩) (tvs.length + 1) cap) (tvs ++ [t]) (Fs ++ [F]) := by
  have kg : Kp (fun k => lv.ownBlock = some k) x y := grown_no kA hgrow
  have tb : ∀ u T, Tb w.heap.size x u T → Tb w.heap.size y u T := fun u T h => h.kp kg (fun k e z => row_ne (row_zero h) (row_zero j.row) (by decide) e z)
  have hl := j.len
  refine ⟨j.kp.trans (A' := fun k => lv.ownBlock = some k) (fun k e => .inr (j.row.lt k e).1) kg, by simpa using hown, by simp [hl], fun i u G h1 h2 => ?_⟩
  rw [List.getElem?_append] at h1 h2
  rw [hl] at h2
  split at h1
  · rename_i hi
    rw [if_pos hi] at h2
    exact tb _ _ (j.tabs i u G h1 h2)
  · rename_i hi
    rw [if_neg hi] at h2
    have h0 : i - tvs.length = 0 := by
      rcases Nat.eq_zero_or_pos (i - tvs.length) with e | e
      · exact e
      · rw [List.getElem?_eq_none (by simp; omega)] at h1; cases h1
    rw [h0] at h1 h2
    simp at h1 h2
    subst h1; subst h2
    exact tb _ _ ht
end

def RLoadPost (w : World) (n : Nat) (xs : List Trip) (e : Ending) (w' : World) : Prop :=
  (okAll n xs ∧ ∃ rv lv tvs, e = .returned (.tuple #[rv, .int .i64 0]) ∧ tvs.length = xs.length + 2 ∧ SrcAt w' rv 1 xs.length (tvs.drop 2) ∧ TabsJ w n w' lv tvs (loadF xs)) ∨
  (¬ okAll n xs ∧ e = .returned (.tuple #[.slice none 0 0, .int .i64 1]) ∧ Kp No w w')

def RLoR (w : World) (n : Nat) (xs : List Trip) (gk : Nat) (s6 s7 : Value) (x : World) : Prop :=
  ∃ k lv tvs, k + gk = xs.length ∧ s7 = .int .i64 (k : Int) ∧ lv = s6 ∧ tvs.length = k + 2 ∧ (∀ i, i < k → okAt n i (xs.getD i (0, 0, 0))) ∧ TabsJ w n x lv tvs (loadF (xs.take k))

theorem TabsJ.start {w w1 w2 : World} {n : Nat} {t0 t1 : Value} (h0 : Tb w.heap.size w1 t0 (tab n (fun _ => false))) (k1 : Kp No w w1) (h1 : Tb w1.heap.size w2 t1 (tab n (fun _ => true))) (k2 : Kp No w1 w2) :
    TabsJ w n (w2.alloc (.cells #[t0, t1] 45)) (.slice (some ⟨w2.heap.size, 0, none⟩) 2 2) [t0, t1] (loadF []) := by
  have s1 := k1.size
  have s2 := k2.size
  refine ⟨(k1.trans_no k2).trans_no (Kp.alloc _), ⟨rfl, .inr ⟨w2.heap.size, 2, #[t0, t1], rfl, by omega, heap_alloc_new _ _, Nat.le_refl _, by simp [maxLen_val], rfl, rfl⟩⟩, rfl, fun i t F h1' h2' => ?_⟩
  match i, h1', h2' with
  | 0, h1', h2' =>
    simp [loadF] at h1' h2'
    subst h1'; subst h2'
    exact (h0.no k2).no (Kp.alloc _)
  | 1, h1', h2' =>
    simp [loadF] at h1' h2'
    subst h1'; subst h2'
    exact (h1.no (Kp.alloc _)).mono s1
  | i + 2, h1', _ => simp at h1'

/-- With the box of a round. -/
structure TabsB (w : World) (n : Nat) (x : World) (lv : Value) (tvs : List Value) (Fs : List BF) (b : Nat) (t : Trip) : Prop where
  j : TabsJ w n x lv tvs Fs
  bx : x.heap[b]? = some (boxN t)
theorem TabsB.no {w : World} {n : Nat} {x y : World} {lv : Value} {tvs : List Value} {Fs : List BF} {b : Nat} {t : Trip} (j : TabsB w n x lv tvs Fs b t) (k : Kp No x y) : TabsB w n y lv tvs Fs b t := ⟨j.j.no k, by rw [k.block _ (heap_lt j.bx) (fun z => z)]; exact j.bx⟩
theorem TabsB.cells {w : World} {n : Nat} {x : World} {ga m ca : Nat} {tvs : List Value} {Fs : List BF} {b : Nat} {t : Trip} (j : TabsB w n x (.slice (some ⟨ga, 0, none⟩) m ca) tvs Fs b t) {lo hi : Nat} (hl : lo < tvs.length) (hh : hi < tvs.length) :
    x.cell? ⟨b, 0, none⟩ = some (.int .i64 t.1) ∧ x.cell? ⟨b, 1, none⟩ = some (.int .i64 t.2.1) ∧ x.cell? ⟨b, 2, none⟩ = some (.int .i64 t.2.2) ∧ x.cell? ⟨ga, lo, none⟩ = some (tvs.getD lo (.bool false)) ∧ x.cell? ⟨ga, hi, none⟩ = some (tvs.getD hi (.bool false)) := by
  refine ⟨?_, ?_, ?_, j.j.cell hl, j.j.cell hh⟩ <;> simp [World.cell?, j.bx]
theorem TabsB.keep {w : World} {n : Nat} {y z : World} {ga m ca : Nat} {tvs : List Value} {Fs : List BF} {b : Nat} {t : Trip} {o : Obj} (j : TabsB w n y (.slice (some ⟨ga, 0, none⟩) m ca) tvs Fs b t) (hgrow : (y.alloc o).grownBy z (some ga))
    (hkept : ∀ j, j < tvs.length → z.cell? ⟨ga, j, none⟩ = (y.alloc o).cell? ⟨ga, j, none⟩) {lo hi : Nat} (hl : lo < tvs.length) (hh : hi < tvs.length) :
    z.cell? ⟨b, 0, none⟩ = some (.int .i64 t.1) ∧ z.cell? ⟨b, 1, none⟩ = some (.int .i64 t.2.1) ∧ z.cell? ⟨b, 2, none⟩ = some (.int .i64 t.2.2) ∧ z.cell? ⟨ga, lo, none⟩ = some (tvs.getD lo (.bool false)) ∧ z.cell? ⟨ga, hi, none⟩ = some (tvs.getD hi (.bool false)) :=
  lo_keep ((j.no (Kp.alloc o)).cells hl hh) hgrow hkept hl hh (Nat.lt_of_lt_of_le (heap_lt j.bx) (by simp)) (fun e => row_box j.j.row j.bx (by decide) (by rw [e]; rfl))

end Go.Proofs.Ytngbodmooddjbaa
