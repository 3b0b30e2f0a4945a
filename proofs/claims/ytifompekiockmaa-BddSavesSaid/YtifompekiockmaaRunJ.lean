/-
  How the lists of 'Run' lie in memory beside the manager.
-/
import Derived.Test.YtifompekiockmaaRunP
namespace Go.Proofs.Ytifompekiockmaa
open Go.RowKit

/-- No block of the value is the manager's. -/
def Off (L : Lay) (p : Nat) (v : Value) : Prop := ∀ k, v.ownBlock = some k → ¬ L.at p k

/-- The state of 'Run' that began at w with the layout L0. -/
structure RJ (w : World) (p n : Nat) (L0 : Lay) (wr : World) (M : Mgr) (L : Lay) (fv tv : Value) (fs : List Int) (Fs : List BF) (tvs : List Value) : Prop where
  sd : Sd w p L0 wr M L
  frow : wr.ownsRow w.heap.size 26 1 fv fs.length (fs.map intV)
  trow : wr.ownsRow w.heap.size 43 1 tv tvs.length tvs
  fo : Off L p fv
  tof : Off L p tv
  tlen : tvs.length = fs.length
  flen : Fs.length = fs.length
  tabs : ∀ (i : Nat) (x : Value) (F : BF), tvs[i]? = some x → Fs[i]? = some F → Tb w.heap.size wr x (tab n F) ∧ Off L p x

theorem ownsRow_mono {w : World} {B B' e size n : Nat} {v : Value} {xs : List Value} (h : w.ownsRow B e size v n xs) (hb : B' ≤ B) : w.ownsRow B' e size v n xs := by
  refine ⟨h.1, ?_⟩
  rcases h.2 with x | ⟨g, cap, cur, hv, hg, r⟩
  · exact .inl x
  · exact .inr ⟨g, cap, cur, hv, Nat.le_trans hb hg, r⟩

theorem Off.step {p : Nat} {L L' : Lay} {w : World} {v : Value} (h : Off L p v) (f : Fresh (L.at p) (L'.at p) w) (hlt : ∀ k, v.ownBlock = some k → k < w.heap.size) : Off L' p v := fun k hk hx => by
  rcases f k hx with h1 | h1
  · exact h k hk h1
  · have := hlt k hk; omega

section
variable {w : World} {p n : Nat} {L0 : Lay} {wr w' : World} {M M' : Mgr} {L : Lay} {fv tv : Value} {fs : List Int} {Fs : List BF} {tvs : List Value}

theorem RJ.no (j : RJ w p n L0 wr M L fv tv fs Fs tvs) (k : Kp No wr w') : RJ w p n L0 w' M L fv tv fs Fs tvs :=
  ⟨j.sd.no k, ownsRow_kp j.frow k (fun _ _ x => x), ownsRow_kp j.trow k (fun _ _ x => x), j.fo, j.tof, j.tlen, j.flen, fun i x F h1 h2 => ⟨(j.tabs i x F h1 h2).1.no k, (j.tabs i x F h1 h2).2⟩⟩

/-- The manager alone is changed. -/
theorem RJ.ret {v : Value} {e : Ending} (j : RJ w p n L0 wr M L fv tv fs Fs tvs) (h : Ret p L wr M' v e w') : e = .returned v ∧ ∃ L', RJ w p n L0 w' M' L' fv tv fs Fs tvs ∧ Kp (L.at p) wr w' ∧ Fresh (L.at p) (L'.at p) wr := by
  obtain ⟨he, L', sd'⟩ := j.sd.step h
  obtain ⟨L1, _, r1, k1, f1⟩ := h
  refine ⟨he, L1, ⟨⟨r1, j.sd.kp.trans j.sd.fr k1, fun x hx => ?_⟩, ownsRow_kp j.frow k1 j.fo, ownsRow_kp j.trow k1 j.tof, j.fo.step f1 (fun k hk => (j.frow.lt k hk).2), j.tof.step f1 (fun k hk => (j.trow.lt k hk).2), j.tlen, j.flen,
    fun i x F h1 h2 => ⟨(j.tabs i x F h1 h2).1.kp k1 (j.tabs i x F h1 h2).2, (j.tabs i x F h1 h2).2.step f1 (fun k hk => ((j.tabs i x F h1 h2).1.lt k hk).2)⟩⟩, k1, f1⟩
  rcases f1 x hx with h1 | h1
  · exact j.sd.fr x h1
  · right; have := j.sd.kp.size; omega

/-- The new table is none of the manager's. -/
theorem off_new {x : Value} {t : List Bool} (R : Rep wr p M L) (h : Tb wr.heap.size w' x t) : Off L p x := fun k hk hx => by
  have h1 := (h.lt k hk).1
  have := R.lt k hx
  omega

/-- An element is appended to the Refs. -/
theorem RJ.pushF {A : World} {g cap : Nat} {r : Int} (j : RJ w p n L0 wr M L fv tv fs Fs tvs) (kA : Kp No wr A) (hs : A.heap.size = wr.heap.size + 1)
    (hown : w'.ownsRow w.heap.size 26 1 (.slice (some ⟨g, 0, none⟩) (fs.length + 1) cap) (fs.length + 1) (fs.map intV ++ [.int .i64 r])) (hgrow : A.grownBy w' fv.ownBlock) (hat : fv.ownBlock = some g ∨ g = A.heap.size) :
    Sd w p L0 w' M L ∧ w'.ownsRow w.heap.size 26 1 (.slice (some ⟨g, 0, none⟩) (fs.length + 1) cap) (fs ++ [r]).length ((fs ++ [r]).map intV) ∧ w'.ownsRow w.heap.size 43 1 tv tvs.length tvs ∧
    Off L p (.slice (some ⟨g, 0, none⟩) (fs.length + 1) cap) ∧ (∀ (i : Nat) (x : Value) (F : BF), tvs[i]? = some x → Fs[i]? = some F → Tb w.heap.size w' x (Go.Proofs.Ytifompekiockmaa.tab n F) ∧ Off L p x) ∧
    (∀ x t, Tb w.heap.size wr x t → Tb w.heap.size w' x t) ∧ Kp (fun k => fv.ownBlock = some k) wr w' := by
  have kg : Kp (fun k => fv.ownBlock = some k) wr w' := grown_no kA hgrow
  have zero : ∀ {e s u n x B}, wr.ownsRow B e s u n x → wr.ownsRow 0 e s u n x := fun h => ownsRow_mono h (Nat.zero_le _)
  have tb : ∀ x t, Tb w.heap.size wr x t → Tb w.heap.size w' x t := fun x t h => h.kp kg (fun k e y => row_ne (zero h) (zero j.frow) (by decide) e y)
  refine ⟨⟨j.sd.rep.kp kg (fun k e => j.fo k e), j.sd.kp.trans (A' := fun k => fv.ownBlock = some k) (fun k e => .inr (j.frow.lt k e).1) kg, j.sd.fr⟩, ?_, ownsRow_kp j.trow kg (fun k e y => row_ne (zero j.trow) (zero j.frow) (by decide) e y), ?_, fun i x F h1 h2 => ⟨tb _ _ (j.tabs i x F h1 h2).1, (j.tabs i x F h1 h2).2⟩, tb, kg⟩
  · simpa [intV] using hown
  · intro k hk hx
    simp [Value.ownBlock] at hk
    subst hk
    rcases hat with h | h
    · exact j.fo _ h hx
    · have := j.sd.rep.lt _ hx; omega

/-- And to the tables. -/
theorem RJ.pushT {A : World} {g cap : Nat} {fv' x : Value} {r : Int} {F : BF} (sd : Sd w p L0 wr M L) (frow : wr.ownsRow w.heap.size 26 1 fv' (fs ++ [r]).length ((fs ++ [r]).map intV)) (trow : wr.ownsRow w.heap.size 43 1 tv tvs.length tvs)
    (fo : Off L p fv') (tof : Off L p tv) (tlen : tvs.length = fs.length) (flen : Fs.length = fs.length)
    (tabs : ∀ (i : Nat) (x : Value) (F : BF), tvs[i]? = some x → Fs[i]? = some F → Tb w.heap.size wr x (Go.Proofs.Ytifompekiockmaa.tab n F) ∧ Off L p x) (hx : Tb w.heap.size wr x (Go.Proofs.Ytifompekiockmaa.tab n F)) (ho : Off L p x)
    (kA : Kp No wr A) (hs : A.heap.size = wr.heap.size + 1)
    (hown : w'.ownsRow w.heap.size 43 1 (.slice (some ⟨g, 0, none⟩) (tvs.length + 1) cap) (tvs.length + 1) (tvs ++ [x])) (hgrow : A.grownBy w' tv.ownBlock) (hat : tv.ownBlock = some g ∨ g = A.heap.size) :
    RJ w p n L0 w' M L fv' (.slice (some ⟨g, 0, none⟩) (tvs.length + 1) cap) (fs ++ [r]) (Fs ++ [F]) (tvs ++ [x]) := by
  have kg : Kp (fun k => tv.ownBlock = some k) wr w' := grown_no kA hgrow
  have zero : ∀ {e s u n x B}, wr.ownsRow B e s u n x → wr.ownsRow 0 e s u n x := fun h => ownsRow_mono h (Nat.zero_le _)
  have tb : ∀ x t, Tb w.heap.size wr x t → Tb w.heap.size w' x t := fun x t h => h.kp kg (fun k e y => row_ne (zero h) (zero trow) (by decide) e y)
  refine ⟨⟨sd.rep.kp kg (fun k e => tof k e), sd.kp.trans (A' := fun k => tv.ownBlock = some k) (fun k e => .inr (trow.lt k e).1) kg, sd.fr⟩, ownsRow_kp frow kg (fun k e y => row_ne (zero frow) (zero trow) (by decide) e y), ?_, fo, ?_, by simp [tlen], by simp [flen], fun i y G h1 h2 => ?_⟩
  · simpa using hown
  · intro k hk hy
    simp [Value.ownBlock] at hk
    subst hk
    rcases hat with h | h
    · exact tof _ h hy
    · have := sd.rep.lt _ hy; omega
  · rw [List.getElem?_append] at h1 h2
    split at h1
    · rename_i hi
      rw [if_pos (by omega)] at h2
      exact ⟨tb _ _ (tabs i y G h1 h2).1, (tabs i y G h1 h2).2⟩
    · rename_i hi
      rw [if_neg (by omega)] at h2
      have h0 : i - tvs.length = 0 := by
        rcases Nat.eq_zero_or_pos (i - tvs.length) with e | e
        · exact e
        · rw [List.getElem?_eq_none (by simp; omega)] at h1; cases h1
      rw [h0] at h1
      rw [show i - Fs.length = 0 by omega] at h2
      simp at h1 h2
      subst h1; subst h2
      exact ⟨tb _ _ hx, ho⟩
end

/-- The steps in memory: a slice of structs of four numbers. -/
def StepsAt (w : World) (v : Value) (l : List Stp) : Prop :=
  ∃ ao c, v = .slice ao l.length c ∧ (l = [] ∨ ∃ g o, ao = some ⟨g, o, none⟩ ∧ g < w.heap.size ∧ ∀ (i : Nat) (s : Stp), l[i]? = some s →
    w.cell? ⟨g, o + i * 4, none⟩ = some (.int .i64 s.1) ∧ w.cell? ⟨g, o + i * 4 + 1, none⟩ = some (.int .i64 s.2.1) ∧ w.cell? ⟨g, o + i * 4 + 2, none⟩ = some (.int .i64 s.2.2.1) ∧ w.cell? ⟨g, o + i * 4 + 3, none⟩ = some (.int .i64 s.2.2.2))

theorem StepsAt.kp {A : Nat → Prop} {w w' : World} {v : Value} {l : List Stp} (h : StepsAt w v l) (k : Kp A w w') (hA : l ≠ [] → ∀ g o n c, v = .slice (some ⟨g, o, none⟩) n c → ¬ A g) : StepsAt w' v l := by
  obtain ⟨ao, c, hv, h⟩ := h
  refine ⟨ao, c, hv, ?_⟩
  rcases h with h | ⟨g, o, rfl, hg, h⟩
  · exact .inl h
  · by_cases hl : l = []
    · exact .inl hl
    refine .inr ⟨g, o, rfl, Nat.lt_of_lt_of_le hg k.size, fun i s hi => ?_⟩
    obtain ⟨h0, h1, h2, h3⟩ := h i s hi
    have e : ∀ x, w'.cell? ⟨g, x, none⟩ = w.cell? ⟨g, x, none⟩ := fun x => k.cell hg (hA hl g o _ _ hv)
    exact ⟨by rw [e]; exact h0, by rw [e]; exact h1, by rw [e]; exact h2, by rw [e]; exact h3⟩

end Go.Proofs.Ytifompekiockmaa
