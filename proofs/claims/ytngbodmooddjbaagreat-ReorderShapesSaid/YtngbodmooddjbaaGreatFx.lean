/-
  The state of a law that picks some of the Refs and tables of a run.
-/
import Derived.Test.YtngbodmooddjbaaGreatFront
import Derived.Test.YtngbodmooddjbaaGreatRefT
import Derived.Test.YtngbodmooddjbaaGreatSx
import Derived.Test.YtngbodmooddjbaaGreatSfl
namespace Go.Proofs.YtngbodmooddjbaaGreat
open Go.RowKit

def pckd (which : List Int) (N k : Nat) : Nat := pick (which.getD k 0) N
def lsP (wl fs : List Int) : List Int := (List.range wl.length).map fun i => fs.getD (pckd wl fs.length i) 0
def tlsP (wl fs : List Int) (tvs : List Value) : List Value := (List.range wl.length).map fun i => tvs.getD (pckd wl fs.length i) (.bool false)
def FlP (wl fs : List Int) (Fs : List BF) : List BF := (List.range wl.length).map fun i => Fs.getD (pckd wl fs.length i) (fun _ => false)
theorem lsP_len (wl fs : List Int) : (lsP wl fs).length = wl.length := by simp [lsP]
theorem tlsP_len (wl fs : List Int) (tvs : List Value) : (tlsP wl fs tvs).length = wl.length := by simp [tlsP]
theorem FlP_len (wl fs : List Int) (Fs : List BF) : (FlP wl fs Fs).length = wl.length := by simp [FlP]
theorem lsP_at (wl fs : List Int) {i : Nat} (hi : i < wl.length) : (lsP wl fs).getD i 0 = fs.getD (pckd wl fs.length i) 0 := by simp [lsP, hi]
theorem tlsP_at (wl fs : List Int) (tvs : List Value) {i : Nat} (hi : i < wl.length) : (tlsP wl fs tvs).getD i (.bool false) = tvs.getD (pckd wl fs.length i) (.bool false) := by simp [tlsP, hi]
theorem FlP_at (wl fs : List Int) (Fs : List BF) {i : Nat} (hi : i < wl.length) : (FlP wl fs Fs).getD i (fun _ => false) = Fs.getD (pckd wl fs.length i) (fun _ => false) := by simp [FlP, hi]
theorem lsP_row (wl fs : List Int) : (lsP wl fs).map intV = (List.range wl.length).map fun i => (Value.int .i64 (fs.getD (pckd wl fs.length i) 0)) := by unfold lsP; rw [List.map_map]; rfl
theorem range_snoc (k : Nat) {α : Type} (f : Nat → α) : (List.range (k + 1)).map f = (List.range k).map f ++ [f k] := by rw [List.range_succ, List.map_append]; rfl

/-- What is known of the picked Refs. -/
def PkV (n : Nat) (M : Mgr) (wl fs : List Int) (Fs : List BF) : Prop := ∀ i, i < wl.length → pckd wl fs.length i < fs.length ∧ M.valid ((lsP wl fs).getD i 0) = true ∧ (∀ a, M.sem ((lsP wl fs).getD i 0).toNat a = (FlP wl fs Fs).getD i (fun _ => false) a) ∧ Upto n ((FlP wl fs Fs).getD i (fun _ => false))
theorem pkv {n c : Nat} {M : Mgr} {fs wl : List Int} {Fs : List BF} (rp : RP n c M fs Fs) : PkV n M wl fs Fs := fun i hi => by
  have hpos := rp.pos
  have hq : pckd wl fs.length i < fs.length := pick_lt (wl.getD i 0) (n := fs.length) (by omega)
  obtain ⟨a, b, d⟩ := rp.at hq
  rw [lsP_at wl fs hi, FlP_at wl fs Fs hi]
  exact ⟨hq, a, b, d⟩
theorem PkV.mem {n : Nat} {M : Mgr} {fs wl : List Int} {Fs : List BF} (h : PkV n M wl fs Fs) {f : Int} (hf : f ∈ lsP wl fs) : M.valid f = true := by
  obtain ⟨i, hi, rfl⟩ := List.getElem_of_mem hf
  have hi' := hi
  rw [lsP_len] at hi'
  have := (h i hi').2.1
  rw [List.getD_eq_getElem?_getD, List.getElem?_eq_getElem hi] at this
  exact this
theorem PkV.vld {n : Nat} {M : Mgr} {fs wl : List Int} {Fs : List BF} (h : PkV n M wl fs Fs) : (Go.Proofs.YtngbodmooddjbaaGreat.vld M (lsP wl fs)).map M.sem = FlP wl fs Fs := by
  have e : (lsP wl fs).filter (fun f => M.valid f) = lsP wl fs := List.filter_eq_self.2 (fun f hf => h.mem hf)
  unfold Go.Proofs.YtngbodmooddjbaaGreat.vld
  rw [e, List.map_map]
  refine List.ext_getElem (by rw [List.length_map, lsP_len, FlP_len]) (fun i h1 h2 => ?_)
  have hi : i < wl.length := by rw [FlP_len] at h2; exact h2
  have hl : i < (lsP wl fs).length := by rw [lsP_len]; exact hi
  have := (h i hi).2.2.1
  rw [List.getElem_map]
  funext a
  have := this a
  rw [List.getD_eq_getElem?_getD, List.getElem?_eq_getElem hl, List.getD_eq_getElem?_getD, List.getElem?_eq_getElem h2] at this
  exact this
structure PkJ (w : World) (p n : Nat) (x : World) (M : Mgr) (L : Lay) (fv tv : Value) (fs : List Int) (Fs : List BF) (tvs : List Value) (wl : List Int) (lv2 tv2 : Value) : Prop where
  fr : Front w p n x M L fv tv fs Fs tvs
  lr : x.ownsRow w.heap.size 40 1 lv2 wl.length ((lsP wl fs).map intV)
  tr : x.ownsRow w.heap.size 42 1 tv2 wl.length (tlsP wl fs tvs)
  lo : Off L p lv2
  to_ : Off L p tv2
section
variable {w : World} {p n : Nat} {x y : World} {M : Mgr} {L : Lay} {fv tv : Value} {fs : List Int} {Fs : List BF} {tvs : List Value} {wl : List Int} {lv2 tv2 : Value}
theorem PkJ.no (j : PkJ w p n x M L fv tv fs Fs tvs wl lv2 tv2) (k : Kp No x y) : PkJ w p n y M L fv tv fs Fs tvs wl lv2 tv2 :=
  ⟨j.fr.no k, ownsRow_kp j.lr k (fun _ _ h => h), ownsRow_kp j.tr k (fun _ _ h => h), j.lo, j.to_⟩
theorem Off.fresh {L L' : Lay} {v : Value} (h : Off L p v) (f : ∀ k, L'.at p k → L.at p k ∨ x.heap.size ≤ k) (l : ∀ k, v.ownBlock = some k → k < x.heap.size) : Off L' p v := fun k hk hx => by
  rcases f k hx with h1 | h1
  · exact h k hk h1
  · have := l k hk; omega
theorem Front.ar {l : List Nat} (j : Front w p n x M L fv tv fs Fs tvs) (h : ArS x p M L l y) : ∃ M' L', Front w p n y M' L' fv tv fs Fs tvs ∧ M'.order = l ∧ (∀ f, M'.vis f = M.vis f) ∧ (∀ f, M.vis f = true → ∀ a, M'.sem f a = M.sem f a) ∧ M'.nodes.length ≤ M.nodes.length + ((visF M).length * 3 ^ M.n + M.n + 2) ∧ Kp (L.at p) x y ∧ ∀ k, L'.at p k → L.at p k ∨ x.heap.size ≤ k := by
  obtain ⟨M', L', r, o, v, s, nb, kp, f⟩ := h
  refine ⟨M', L', ⟨⟨r, j.own.kp.trans (A' := L.at p) (fun a ha => .inr (j.own.own a ha)) kp, fun a ha => ?_⟩, ownsRow_kp j.frow kp j.fo, ownsRow_kp j.trow kp j.tof, j.fo.fresh f (fun k hk => (j.frow.lt k hk).2), j.tof.fresh f (fun k hk => (j.trow.lt k hk).2), j.tlen, j.flen,
    fun i z F h1 h2 => ⟨(j.tabs i z F h1 h2).1.kp kp (j.tabs i z F h1 h2).2, (j.tabs i z F h1 h2).2.fresh f (fun k hk => ((j.tabs i z F h1 h2).1.lt k hk).2)⟩⟩, o, v, s, nb, kp, f⟩
  rcases f a ha with h1 | h1
  · exact j.own.own a h1
  · have := j.own.kp.size; omega
theorem PkJ.tabs (j : PkJ w p n x M L fv tv fs Fs tvs wl lv2 tv2) (pk : PkV n M wl fs Fs) : Tabs n x tv2 (tlsP wl fs tvs) (FlP wl fs Fs) := by
  refine ⟨by rw [tlsP_len]; exact SrcAt.of_row j.tr, by rw [FlP_len, tlsP_len], fun i hi => ?_⟩
  rw [tlsP_len] at hi
  rw [tlsP_at wl fs tvs hi, FlP_at wl fs Fs hi]
  exact (j.fr.tabAt (pk i hi).1).1.mono (Nat.zero_le _)
theorem PkJ.lsrc (j : PkJ w p n x M L fv tv fs Fs tvs wl lv2 tv2) : SrcAt x lv2 1 (lsP wl fs).length ((lsP wl fs).map intV) := by
  rw [lsP_len]; exact SrcAt.of_row j.lr
end

end Go.Proofs.YtngbodmooddjbaaGreat
