/-
  Walks: 'Load' of the reference netverifyref26.
-/
import Derived.Test.YtngbodmooddjbaaFront
import Derived.Test.YtngbodmooddjbaaOps
import Derived.Test.YtngbodmooddjbaaKeep
import Derived.Test.YtngbodmooddjbaaRunJ
namespace Go.Proofs.Ytngbodmooddjbaa
open Go.RowKit

def cells3 (x : Trip) : List Value := [.int .i64 x.1, .int .i64 x.2.1, .int .i64 x.2.2]
theorem cells3_get (l : List Trip) {f : Nat} (h : f < l.length) : (l.flatMap cells3)[f * 3]? = some (.int .i64 (l.getD f (0, 0, 0)).1) ∧ (l.flatMap cells3)[f * 3 + 1]? = some (.int .i64 (l.getD f (0, 0, 0)).2.1) ∧ (l.flatMap cells3)[f * 3 + 2]? = some (.int .i64 (l.getD f (0, 0, 0)).2.2) := by
  induction l generalizing f with
  | nil => simp at h
  | cons y l ih =>
    cases f with
    | zero => simp [cells3]
    | succ f =>
      have h' : f < l.length := by simpa using h
      obtain ⟨a, b, c⟩ := ih h'
      have e1 : ∀ j, (f + 1) * 3 + j - (cells3 y).length = f * 3 + j := fun j => by simp [cells3]; omega
      rw [List.flatMap_cons]
      refine ⟨?_, ?_, ?_⟩
      · rw [List.getElem?_append_right (by simp [cells3]; omega)]
        have := e1 0
        simp only [Nat.add_zero] at this
        rw [this]
        simpa using a
      · rw [List.getElem?_append_right (by simp [cells3]; omega), e1 1]; simpa using b
      · rw [List.getElem?_append_right (by simp [cells3]; omega), e1 2]; simpa using c
theorem cells3_len (l : List Trip) : (l.flatMap cells3).length = l.length * 3 := by
  induction l with
  | nil => rfl
  | cons y l ih => rw [List.flatMap_cons, List.length_append, ih]; simp [cells3]; omega

/-- Whether the node at index i is one. -/
def okAt (n i : Nat) (x : Trip) : Prop := (0 ≤ x.1 ∧ x.1 < n) ∧ (0 ≤ x.2.1 ∧ x.2.1 ≤ i + 1) ∧ (0 ≤ x.2.2 ∧ x.2.2 ≤ i + 1)
instance (n i : Nat) (x : Trip) : Decidable (okAt n i x) := by unfold okAt; infer_instance
def okAll (n : Nat) (xs : List Trip) : Prop := ∀ i, i < xs.length → okAt n i (xs.getD i (0, 0, 0))

/-- The functions of a list of nodes, the constants first. -/
def loadStep (Fs : List BF) (x : Trip) : List BF := Fs ++ [fun a => if a x.1.toNat then Fs.getD x.2.2.toNat (fun _ => false) a else Fs.getD x.2.1.toNat (fun _ => false) a]
def loadF (xs : List Trip) : List BF := xs.foldl loadStep [fun _ => false, fun _ => true]
theorem loadF_len (xs : List Trip) : (loadF xs).length = xs.length + 2 := by
  have : ∀ (xs : List Trip) (Fs : List BF), (xs.foldl loadStep Fs).length = Fs.length + xs.length := by
    intro xs
    induction xs with
    | nil => intro Fs; rfl
    | cons x xs ih => intro Fs; rw [List.foldl_cons, ih]; simp [loadStep]; omega
  unfold loadF; rw [this]; simp; omega
theorem loadF_snoc (xs : List Trip) (x : Trip) : loadF (xs ++ [x]) = loadStep (loadF xs) x := by simp [loadF, List.foldl_append]

theorem Bk.zip_at {n c : Nat} {M : Mgr} {fs : List Int} {Fs : List BF} {B : List (Int × BF)} (b : Bk n c M (fs.zip Fs ++ B)) (hl : Fs.length = fs.length) {i : Nat} (hi : i < fs.length) : M.valid (fs.getD i 0) = true ∧ (∀ a, M.sem (fs.getD i 0).toNat a = Fs.getD i (fun _ => false) a) ∧ Upto n (Fs.getD i (fun _ => false)) :=
  b.at (List.mem_append_left _ (mem_zip hi hl))

/-- 'Load' on the way. -/
structure LoJ (w : World) (p n c : Nat) (L0 : Lay) (B : List (Int × BF)) (x : World) (M : Mgr) (L : Lay) (av : Value) (rs : List Int) (Fs : List BF) : Prop where
  sd : Sd w p L0 x M L
  bk : Bk n c M (rs.zip Fs ++ B)
  row : x.ownsRow w.heap.size 27 1 av rs.length (rs.map intV)
  off : ∀ k, av.ownBlock = some k → ¬ L.at p k
  len : Fs.length = rs.length

theorem LoJ.no {w : World} {p n c : Nat} {L0 : Lay} {B : List (Int × BF)} {x y : World} {M : Mgr} {L : Lay} {av : Value} {rs : List Int} {Fs : List BF} (j : LoJ w p n c L0 B x M L av rs Fs) (k : Kp No x y) : LoJ w p n c L0 B y M L av rs Fs :=
  ⟨j.sd.no k, j.bk, ownsRow_kp j.row k (fun _ _ z => z), j.off, j.len⟩

def LoadOk (w : World) (p n : Nat) (L : Lay) (B : List (Int × BF)) (xs : List Trip) (c : Nat) (e : Ending) (w' : World) : Prop :=
  ∃ rv M' L' av rs, e = .returned (.tuple #[rv, .int .i64 0]) ∧ rs.length = xs.length + 2 ∧ SrcAt w' rv 1 xs.length ((rs.drop 2).map intV) ∧ LoJ w p n c L B w' M' L' av rs (loadF xs) ∧ rs.take 2 = [0, 1] ∧ (∀ g o m q, rv = .slice (some ⟨g, o, none⟩) m q → av.ownBlock = some g)

def LoadPost (w : World) (p n : Nat) (L : Lay) (B : List (Int × BF)) (xs : List Trip) (c : Nat) (e : Ending) (w' : World) : Prop :=
  (okAll n xs ∧ LoadOk w p n L B xs c e w') ∨ (¬ okAll n xs ∧ e = .returned (.tuple #[.slice none 0 0, .int .i64 1]) ∧ Kp No w w')

def LoR1 (w : World) (n : Nat) (xs : List Trip) (gk : Nat) (s16 : Value) (x : World) : Prop := ∃ k, k + gk = xs.length ∧ s16 = .int .i64 (k : Int) ∧ Kp No w x ∧ ∀ i, i < k → okAt n i (xs.getD i (0, 0, 0))

def LoR2 (w : World) (p n c : Nat) (L0 : Lay) (B : List (Int × BF)) (xs : List Trip) (gk : Nat) (s8 s54 : Value) (x : World) : Prop :=
  ∃ k M L av rs, k + gk = xs.length ∧ s54 = .int .i64 (k : Int) ∧ av = s8 ∧ rs.length = k + 2 ∧ rs.take 2 = [0, 1] ∧ LoJ w p n (c + 400 * k) L0 B x M L av rs (loadF (xs.take k))

theorem LoJ.start {w : World} {p n c : Nat} {L0 : Lay} {B : List (Int × BF)} {x : World} {M : Mgr} (sd : Sd w p L0 x M L0) (hL : ∀ k, L0.at p k → k < x.heap.size) (b : Bk n c M B) (hx : w.heap.size ≤ x.heap.size) :
    LoJ w p n c L0 B (x.alloc (.cells #[.int .i64 0, .int .i64 1] 27)) M L0 (.slice (some ⟨x.heap.size, 0, none⟩) 2 2) [0, 1] (loadF []) := by
  refine ⟨sd.no (Kp.alloc _), b.consts, ⟨rfl, .inr ⟨x.heap.size, 2, #[.int .i64 0, .int .i64 1], rfl, hx, heap_alloc_new _ _, Nat.le_refl _, by simp [maxLen_val], rfl, rfl⟩⟩, fun k hk h => ?_, rfl⟩
  simp [Value.ownBlock] at hk
  have := hL k h
  omega

/-- The join of two Refs of the list. -/
theorem LoJ.join {w : World} {p n c : Nat} {L0 : Lay} {B : List (Int × BF)} {x : World} {M : Mgr} {L : Lay} {av : Value} {rs : List Int} {Fs : List BF} (j : LoJ w p n c L0 B x M L av rs Fs) (hn : n ≤ 6) (hc : c ≤ 100000000) {v lo hi : Nat} (hv : v < n) (hl : lo < rs.length) (hh : hi < rs.length) :
    ∃ J : Mgr × Nat, J = M.joinM v (rs.getD lo 0).toNat (rs.getD hi 0).toNat ∧ J.1.nodes.length ≤ big ∧ v < M.n ∧ M.stored (rs.getD lo 0).toNat ∧ M.stored (rs.getD hi 0).toNat ∧ (0 ≤ rs.getD lo 0) ∧ (0 ≤ rs.getD hi 0) ∧ J.1.stored J.2 ∧
      Bk n (c + 400) (J.1.show J.2) ((rs ++ [(J.2 : Int)]).zip (Fs ++ [fun a => if a v then Fs.getD hi (fun _ => false) a else Fs.getD lo (fun _ => false) a]) ++ B) := by
  obtain ⟨v1, s1, u1⟩ := j.bk.zip_at j.len hl
  obtain ⟨v2, s2, u2⟩ := j.bk.zip_at j.len hh
  obtain ⟨k1, e1, st1, _⟩ := Mgr.valid_nat j.bk.wf v1
  obtain ⟨k2, e2, st2, _⟩ := Mgr.valid_nat j.bk.wf v2
  have hv' : v < M.n := by rw [j.bk.nn]; exact hv
  have h1 : M.stored (rs.getD lo 0).toNat := by rw [e1, Int.toNat_natCast]; exact st1
  have h2 : M.stored (rs.getD hi 0).toNat := by rw [e2, Int.toNat_natCast]; exact st2
  have js := Mgr.join_spec j.bk.wf hv' h1 h2
  have eF : Mgr.joinF M v (rs.getD lo 0).toNat (rs.getD hi 0).toNat = fun a => if a v then Fs.getD hi (fun _ => false) a else Fs.getD lo (fun _ => false) a := by
    funext a; unfold Mgr.joinF; rw [s1, s2]
  have hup : Upto n (fun a => if a v then Fs.getD hi (fun _ => false) a else Fs.getD lo (fun _ => false) a) := fun a b hab => by
    show (if a v = true then _ else _) = (if b v = true then _ else _)
    rw [hab v hv, u1 a b hab, u2 a b hab]
  have jc := Mgr.join_cost j.bk.wf hv' h1 h2 (s := 2 ^ M.n) (Mgr.states_any (by rw [eF]; exact hup.reads j.bk.nn))
  rw [j.bk.nn] at jc
  have nc := n_cost hn
  have hcost := j.bk.cost
  have ops := Mgr.show_ops (c := 400) j.bk.wf js.wf js.ext js.st js.sem (by omega)
  refine ⟨_, rfl, by unfold big; omega, hv', h1, h2, by omega, by omega, js.st, ?_⟩
  have b' := j.bk.push (c' := c + 400) (F := fun a => if a v then Fs.getD hi (fun _ => false) a else Fs.getD lo (fun _ => false) a) (by rw [eF] at ops; exact ops) hup (Nat.le_refl _)
  refine b'.sub (fun y hy => ?_)
  rcases List.mem_append.1 hy with hy | hy
  · rw [List.zip_append j.len.symm] at hy
    rcases List.mem_append.1 hy with hy | hy
    · exact List.mem_cons_of_mem _ (List.mem_append_left _ hy)
    · simp at hy
      subst hy
      exact List.Mem.head _
  · exact List.mem_cons_of_mem _ (List.mem_append_right _ hy)

theorem info_ref' : (Try.prog.info? 27).map (fun i => (i.zero, i.size, i.bytes)) = some (some (.int .i64 0), 1, 8) := by kernel_rfl

abbrev boxN (x : Trip) : Obj := .cells #[.int .i64 x.1, .int .i64 x.2.1, .int .i64 x.2.2] 125

/-- 'Load' with a box of the round's own. -/
structure LoB (w : World) (p n c : Nat) (L0 : Lay) (B : List (Int × BF)) (x : World) (M : Mgr) (L : Lay) (av : Value) (rs : List Int) (b : Nat) (t : Trip) : Prop where
  sd : Sd w p L0 x M L
  row : x.ownsRow w.heap.size 27 1 av rs.length (rs.map intV)
  off : ∀ k, av.ownBlock = some k → ¬ L.at p k
  bx : x.heap[b]? = some (boxN t)
  nb : ¬ L.at p b
theorem LoB.no {w : World} {p n c : Nat} {L0 : Lay} {B : List (Int × BF)} {x y : World} {M : Mgr} {L : Lay} {av : Value} {rs : List Int} {b : Nat} {t : Trip} (j : LoB w p n c L0 B x M L av rs b t) (k : Kp No x y) : LoB w p n c L0 B y M L av rs b t :=
  ⟨j.sd.no k, ownsRow_kp j.row k (fun _ _ z => z), j.off, by rw [k.block _ (heap_lt j.bx) (fun z => z)]; exact j.bx, j.nb⟩
theorem LoB.step {w : World} {p n c : Nat} {L0 : Lay} {B : List (Int × BF)} {x y : World} {M M' : Mgr} {L : Lay} {av : Value} {rs : List Int} {b : Nat} {t : Trip} {u : Value} {e : Ending} (j : LoB w p n c L0 B x M L av rs b t) (h : Ret p L x M' u e y) : e = .returned u ∧ ∃ L', LoB w p n c L0 B y M' L' av rs b t := by
  obtain ⟨L', he, r, k, f⟩ := h
  refine ⟨he, L', ⟨r, j.sd.kp.trans j.sd.fr k, fun z hz => ?_⟩, ownsRow_kp j.row k j.off, fun z hz hx => ?_, by rw [k.block b (heap_lt j.bx) j.nb]; exact j.bx, fun hx => ?_⟩
  · rcases f z hz with h1 | h1
    · exact j.sd.fr z h1
    · right; have := j.sd.kp.size; omega
  · rcases f z hx with h1 | h1
    · exact j.off z hz h1
    · have := (j.row.lt z hz).2; omega
  · rcases f b hx with h1 | h1
    · exact j.nb h1
    · have := heap_lt j.bx; omega
theorem LoB.cells {w : World} {p n c : Nat} {L0 : Lay} {B : List (Int × BF)} {x : World} {M : Mgr} {L : Lay} {ga m ca : Nat} {rs : List Int} {b : Nat} {t : Trip} (j : LoB w p n c L0 B x M L (.slice (some ⟨ga, 0, none⟩) m ca) rs b t) {lo hi : Nat} (hl : lo < rs.length) (hh : hi < rs.length) :
    x.cell? ⟨b, 0, none⟩ = some (.int .i64 t.1) ∧ x.cell? ⟨b, 1, none⟩ = some (.int .i64 t.2.1) ∧ x.cell? ⟨b, 2, none⟩ = some (.int .i64 t.2.2) ∧ x.cell? ⟨ga, lo, none⟩ = some (.int .i64 (rs.getD lo 0)) ∧ x.cell? ⟨ga, hi, none⟩ = some (.int .i64 (rs.getD hi 0)) := by
  obtain ⟨g, cap, hv, _, _, _, hc, _⟩ := ownsRow_open j.row (by omega)
  cases hv
  refine ⟨?_, ?_, ?_, hc lo _ (by simp [intV, hl]), hc hi _ (by simp [intV, hh])⟩ <;> simp [World.cell?, j.bx]

theorem lo_at {g ga n c : Nat} {x : World} {o : Obj} (h : g = ga ∨ g = x.heap.size + 1) : (Value.slice (some ⟨ga, 0, none⟩) n c).ownBlock = some g ∨ g = (x.alloc o).heap.size := by
  rcases h with h | h
  · exact .inl (by rw [h]; rfl)
  · exact .inr (by simpa using h)
theorem lo_keep {x z : World} {b ga lo hi n : Nat} {t : Trip} {rl rh : Value} (h : x.cell? ⟨b, 0, none⟩ = some (.int .i64 t.1) ∧ x.cell? ⟨b, 1, none⟩ = some (.int .i64 t.2.1) ∧ x.cell? ⟨b, 2, none⟩ = some (.int .i64 t.2.2) ∧ x.cell? ⟨ga, lo, none⟩ = some rl ∧ x.cell? ⟨ga, hi, none⟩ = some rh)
    (hgrow : x.grownBy z (some ga)) (hkept : ∀ j, j < n → z.cell? ⟨ga, j, none⟩ = x.cell? ⟨ga, j, none⟩) (hl : lo < n) (hh : hi < n) (hb : b < x.heap.size) (hne : ga ≠ b) :
    z.cell? ⟨b, 0, none⟩ = some (.int .i64 t.1) ∧ z.cell? ⟨b, 1, none⟩ = some (.int .i64 t.2.1) ∧ z.cell? ⟨b, 2, none⟩ = some (.int .i64 t.2.2) ∧ z.cell? ⟨ga, lo, none⟩ = some rl ∧ z.cell? ⟨ga, hi, none⟩ = some rh := by
  have e : ∀ i, z.cell? ⟨b, i, none⟩ = x.cell? ⟨b, i, none⟩ := fun i => hgrow.cell_far ⟨b, i, none⟩ hb (fun e => hne (Option.some.inj e).symm)
  exact ⟨by rw [e]; exact h.1, by rw [e]; exact h.2.1, by rw [e]; exact h.2.2.1, by rw [hkept lo hl]; exact h.2.2.2.1, by rw [hkept hi hh]; exact h.2.2.2.2⟩

theorem LoB.keep {w : World} {p n c : Nat} {L0 : Lay} {B : List (Int × BF)} {y z : World} {M : Mgr} {L : Lay} {ga m ca : Nat} {rs : List Int} {b : Nat} {t : Trip} {o : Obj} (j : LoB w p n c L0 B y M L (.slice (some ⟨ga, 0, none⟩) m ca) rs b t) (hgrow : (y.alloc o).grownBy z (some ga))
    (hkept : ∀ j, j < rs.length → z.cell? ⟨ga, j, none⟩ = (y.alloc o).cell? ⟨ga, j, none⟩) {lo hi : Nat} (hl : lo < rs.length) (hh : hi < rs.length) :
    z.cell? ⟨b, 0, none⟩ = some (.int .i64 t.1) ∧ z.cell? ⟨b, 1, none⟩ = some (.int .i64 t.2.1) ∧ z.cell? ⟨b, 2, none⟩ = some (.int .i64 t.2.2) ∧ z.cell? ⟨ga, lo, none⟩ = some (.int .i64 (rs.getD lo 0)) ∧ z.cell? ⟨ga, hi, none⟩ = some (.int .i64 (rs.getD hi 0)) :=
  lo_keep ((j.no (Kp.alloc o)).cells hl hh) hgrow hkept hl hh (Nat.lt_of_lt_of_le (heap_lt j.bx) (by simp)) (fun e => row_box j.row j.bx (by decide) (by rw [e]; rfl))

theorem LoB.push {w : World} {p n c c2 : Nat} {L0 : Lay} {B : List (Int × BF)} {x A y : World} {M : Mgr} {L : Lay} {av : Value} {rs : List Int} {b : Nat} {t : Trip} {r : Int} {Fs : List BF} {g cap : Nat} (j : LoB w p n c L0 B x M L av rs b t) (bk : Bk n c2 M ((rs ++ [r]).zip Fs ++ B)) (hl : Fs.length = rs.length + 1)
    (kA : Kp No x A) (hs : A.heap.size = x.heap.size + 1) (hown : y.ownsRow w.heap.size 27 1 (.slice (some ⟨g, 0, none⟩) (rs.length + 1) cap) (rs.length + 1) (rs.map intV ++ [.int .i64 r])) (hgrow : A.grownBy y av.ownBlock) (hat : av.ownBlock = some g ∨ g = A.heap.size) :
    LoJ w p n c2 L0 B y M L (.slice (some ⟨g, 0, none⟩) (rs.length + 1) cap) (rs ++ [r]) Fs := by
  have kg : Kp (fun k => av.ownBlock = some k) x y := grown_no kA hgrow
  refine ⟨⟨j.sd.rep.kp kg (fun k e => j.off k e), j.sd.kp.trans (A' := fun k => av.ownBlock = some k) (fun k e => .inr (j.row.lt k e).1) kg, j.sd.fr⟩, bk, by simpa [intV] using hown, fun k hk hx => ?_, by rw [hl]; simp⟩
  simp [Value.ownBlock] at hk
  subst hk
  rcases hat with h | h
  · exact j.off _ h hx
  · have := j.sd.rep.lt _ hx; omega

end Go.Proofs.Ytngbodmooddjbaa

namespace Go.Proofs.Ytngbodmooddjbaa
open Go.RowKit

theorem info_func' : (Try.prog.info? 45).map (fun i => (i.zero, i.size, i.bytes)) = some (some (.slice none 0 0), 1, 24) := by kernel_rfl

/-- A list of tables in memory, made since w. -/
structure TabsJ (w : World) (n : Nat) (x : World) (lv : Value) (tvs : List Value) (Fs : List BF) : Prop where
  kp : Kp No w x
  row : x.ownsRow w.heap.size 45 1 lv tvs.length tvs
  len : Fs.length = tvs.length
  tabs : ∀ (i : Nat) (t : Value) (F : BF), tvs[i]? = some t → Fs[i]? = some F → Tb w.heap.size x t (tab n F)

section
variable {w : World} {n : Nat} {x y : World} {lv : Value} {tvs : List Value} {Fs : List BF}
theorem TabsJ.no (j : TabsJ w n x lv tvs Fs) (k : Kp No x y) : TabsJ w n y lv tvs Fs := ⟨j.kp.trans_no k, ownsRow_kp j.row k (fun _ _ z => z), j.len, fun i t F h1 h2 => (j.tabs i t F h1 h2).no k⟩
theorem TabsJ.at (j : TabsJ w n x lv tvs Fs) {i : Nat} (hi : i < tvs.length) : Tb w.heap.size x (tvs.getD i (.bool false)) (Go.Proofs.Ytngbodmooddjbaa.tab n (Fs.getD i (fun _ => false))) := by
  have h2 := j.len
  exact j.tabs i _ _ (by simp [hi]) (by simp [show i < Fs.length by omega])
theorem TabsJ.cell {g m c : Nat} (j : TabsJ w n x (.slice (some ⟨g, 0, none⟩) m c) tvs Fs) {i : Nat} (hi : i < tvs.length) : x.cell? ⟨g, i, none⟩ = some (tvs.getD i (.bool false)) := by
  obtain ⟨g', cap, hv, _, _, _, hc, _⟩ := ownsRow_open j.row (by omega)
  cases hv
  exact hc i _ (by simp [hi])
theorem TabsJ.push {A : World} {g cap : Nat} {t : Value} {F : BF} (j : TabsJ w n x lv tvs Fs) (ht : Tb w.heap.size x t (Go.Proofs.Ytngbodmooddjbaa.tab n F)) (kA : Kp No x A) (hown : y.ownsRow w.heap.size 45 1 (.slice (some ⟨g, 0, none⟩) (tvs.length + 1) cap) (tvs.length + 1) (tvs ++ [t])) (hgrow : A.grownBy y lv.ownBlock) :
    TabsJ w n y (.slice (some ⟨g, 0, none⟩) (tvs.length + 1) cap) (tvs ++ [t]) (Fs ++ [F]) := by
  have kg : Kp (fun k => lv.ownBlock = some k) x y := grown_no kA hgrow
  have tb : ∀ u T, Tb w.heap.size x u T → Tb w.heap.size y u T := fun u T h => h.kp kg (fun k e z => row_ne (row_zero h) (row_zero j.row) (by decide) e z)
  have hl := j.len
  refine ⟨j.kp.trans (A' := fun k => lv.ownBlock = some k) (fun k e => .inr (j.row.lt k e).1) kg, by simpa using hown, by simp [hl], fun i u G h1 h2 => ?_⟩
  rw [List.getElem?_append] at h1 h2
  rw [hl] at h2
  split at h1
  · rename_i hi
    rw [if_pos hi] at h2
    exact tb _ _ (j.tabs i u G h1 h2)
  · rename_i hi
    rw [if_neg hi] at h2
    have h0 : i - tvs.length = 0 := by
      rcases Nat.eq_zero_or_pos (i - tvs.length) with e | e
      · exact e
      · rw [List.getElem?_eq_none (by simp; omega)] at h1; cases h1
    rw [h0] at h1 h2
    simp at h1 h2
    subst h1; subst h2
    exact tb _ _ ht
end

def RLoadPost (w : World) (n : Nat) (xs : List Trip) (e : Ending) (w' : World) : Prop :=
  (okAll n xs ∧ ∃ rv lv tvs, e = .returned (.tuple #[rv, .int .i64 0]) ∧ tvs.length = xs.length + 2 ∧ SrcAt w' rv 1 xs.length (tvs.drop 2) ∧ TabsJ w n w' lv tvs (loadF xs)) ∨
  (¬ okAll n xs ∧ e = .returned (.tuple #[.slice none 0 0, .int .i64 1]) ∧ Kp No w w')

def RLoR (w : World) (n : Nat) (xs : List Trip) (gk : Nat) (s6 s7 : Value) (x : World) : Prop :=
  ∃ k lv tvs, k + gk = xs.length ∧ s7 = .int .i64 (k : Int) ∧ lv = s6 ∧ tvs.length = k + 2 ∧ (∀ i, i < k → okAt n i (xs.getD i (0, 0, 0))) ∧ TabsJ w n x lv tvs (loadF (xs.take k))

theorem TabsJ.start {w w1 w2 : World} {n : Nat} {t0 t1 : Value} (h0 : Tb w.heap.size w1 t0 (tab n (fun _ => false))) (k1 : Kp No w w1) (h1 : Tb w1.heap.size w2 t1 (tab n (fun _ => true))) (k2 : Kp No w1 w2) :
    TabsJ w n (w2.alloc (.cells #[t0, t1] 45)) (.slice (some ⟨w2.heap.size, 0, none⟩) 2 2) [t0, t1] (loadF []) := by
  have s1 := k1.size
  have s2 := k2.size
  refine ⟨(k1.trans_no k2).trans_no (Kp.alloc _), ⟨rfl, .inr ⟨w2.heap.size, 2, #[t0, t1], rfl, by omega, heap_alloc_new _ _, Nat.le_refl _, by simp [maxLen_val], rfl, rfl⟩⟩, rfl, fun i t F h1' h2' => ?_⟩
  match i, h1', h2' with
  | 0, h1', h2' =>
    simp [loadF] at h1' h2'
    subst h1'; subst h2'
    exact (h0.no k2).no (Kp.alloc _)
  | 1, h1', h2' =>
    simp [loadF] at h1' h2'
    subst h1'; subst h2'
    exact (h1.no (Kp.alloc _)).mono s1
  | i + 2, h1', _ => simp at h1'

/-- With the box of a round. -/
structure TabsB (w : World) (n : Nat) (x : World) (lv : Value) (tvs : List Value) (Fs : List BF) (b : Nat) (t : Trip) : Prop where
  j : TabsJ w n x lv tvs Fs
  bx : x.heap[b]? = some (boxN t)
theorem TabsB.no {w : World} {n : Nat} {x y : World} {lv : Value} {tvs : List Value} {Fs : List BF} {b : Nat} {t : Trip} (j : TabsB w n x lv tvs Fs b t) (k : Kp No x y) : TabsB w n y lv tvs Fs b t := ⟨j.j.no k, by rw [k.block _ (heap_lt j.bx) (fun z => z)]; exact j.bx⟩
theorem TabsB.cells {w : World} {n : Nat} {x : World} {ga m ca : Nat} {tvs : List Value} {Fs : List BF} {b : Nat} {t : Trip} (j : TabsB w n x (.slice (some ⟨ga, 0, none⟩) m ca) tvs Fs b t) {lo hi : Nat} (hl : lo < tvs.length) (hh : hi < tvs.length) :
    x.cell? ⟨b, 0, none⟩ = some (.int .i64 t.1) ∧ x.cell? ⟨b, 1, none⟩ = some (.int .i64 t.2.1) ∧ x.cell? ⟨b, 2, none⟩ = some (.int .i64 t.2.2) ∧ x.cell? ⟨ga, lo, none⟩ = some (tvs.getD lo (.bool false)) ∧ x.cell? ⟨ga, hi, none⟩ = some (tvs.getD hi (.bool false)) := by
  refine ⟨?_, ?_, ?_, j.j.cell hl, j.j.cell hh⟩ <;> simp [World.cell?, j.bx]
theorem TabsB.keep {w : World} {n : Nat} {y z : World} {ga m ca : Nat} {tvs : List Value} {Fs : List BF} {b : Nat} {t : Trip} {o : Obj} (j : TabsB w n y (.slice (some ⟨ga, 0, none⟩) m ca) tvs Fs b t) (hgrow : (y.alloc o).grownBy z (some ga))
    (hkept : ∀ j, j < tvs.length → z.cell? ⟨ga, j, none⟩ = (y.alloc o).cell? ⟨ga, j, none⟩) {lo hi : Nat} (hl : lo < tvs.length) (hh : hi < tvs.length) :
    z.cell? ⟨b, 0, none⟩ = some (.int .i64 t.1) ∧ z.cell? ⟨b, 1, none⟩ = some (.int .i64 t.2.1) ∧ z.cell? ⟨b, 2, none⟩ = some (.int .i64 t.2.2) ∧ z.cell? ⟨ga, lo, none⟩ = some (tvs.getD lo (.bool false)) ∧ z.cell? ⟨ga, hi, none⟩ = some (tvs.getD hi (.bool false)) :=
  lo_keep ((j.no (Kp.alloc o)).cells hl hh) hgrow hkept hl hh (Nat.lt_of_lt_of_le (heap_lt j.bx) (by simp)) (fun e => row_box j.j.row j.bx (by decide) (by rw [e]; rfl))

end Go.Proofs.Ytngbodmooddjbaa
