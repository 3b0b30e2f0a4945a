/-
  Walks: 'Load' of the package bdd, in a manager of at most six variables.
-/
import Derived.Test.YtifompekiockmaaBank
import Derived.Test.YtifompekiockmaaJoin
import Derived.Test.YtifompekiockmaaKeep
namespace Go.Proofs.Ytifompekiockmaa
open Go.RowKit

def cells3 (x : Trip) : List Value := [.int .i64 x.1, .int .i64 x.2.1, .int .i64 x.2.2]
theorem cells3_get (l : List Trip) {f : Nat} (h : f < l.length) : (l.flatMap cells3)[f * 3]? = some (.int .i64 (l.getD f (0, 0, 0)).1) ∧ (l.flatMap cells3)[f * 3 + 1]? = some (.int .i64 (l.getD f (0, 0, 0)).2.1) ∧ (l.flatMap cells3)[f * 3 + 2]? = some (.int .i64 (l.getD f (0, 0, 0)).2.2) := by
  induction l generalizing f with
  | nil => simp at h
  | cons y l ih =>
    cases f with
    | zero => simp [cells3]
    | succ f =>
      have h' : f < l.length := by simpa using h
      obtain ⟨a, b, c⟩ := ih h'
      have e1 : ∀ j, (f + 1) * 3 + j - (cells3 y).length = f * 3 + j := fun j => by simp [cells3]; omega
      rw [List.flatMap_cons]
      refine ⟨?_, ?_, ?_⟩
      · rw [List.getElem?_append_right (by simp [cells3]; omega)]
        have := e1 0
        simp only [Nat.add_zero] at this
        rw [this]
        simpa using a
      · rw [List.getElem?_append_right (by simp [cells3]; omega), e1 1]; simpa using b
      · rw [List.getElem?_append_right (by simp [cells3]; omega), e1 2]; simpa using c
theorem cells3_len (l : List Trip) : (l.flatMap cells3).length = l.length * 3 := by
  induction l with
  | nil => rfl
  | cons y l ih => rw [List.flatMap_cons, List.length_append, ih]; simp [cells3]; omega

/-- Whether the node at index i is one. -/
def okAt (n i : Nat) (x : Trip) : Prop := (0 ≤ x.1 ∧ x.1 < n) ∧ (0 ≤ x.2.1 ∧ x.2.1 ≤ i + 1) ∧ (0 ≤ x.2.2 ∧ x.2.2 ≤ i + 1)
instance (n i : Nat) (x : Trip) : Decidable (okAt n i x) := by unfold okAt; infer_instance
def okAll (n : Nat) (xs : List Trip) : Prop := ∀ i, i < xs.length → okAt n i (xs.getD i (0, 0, 0))

/-- The functions of a list of nodes, the constants first. -/
def loadStep (Fs : List BF) (x : Trip) : List BF := Fs ++ [fun a => if a x.1.toNat then Fs.getD x.2.2.toNat (fun _ => false) a else Fs.getD x.2.1.toNat (fun _ => false) a]
def loadF (xs : List Trip) : List BF := xs.foldl loadStep [fun _ => false, fun _ => true]
theorem loadF_len (xs : List Trip) : (loadF xs).length = xs.length + 2 := by
  have : ∀ (xs : List Trip) (Fs : List BF), (xs.foldl loadStep Fs).length = Fs.length + xs.length := by
    intro xs
    induction xs with
    | nil => intro Fs; rfl
    | cons x xs ih => intro Fs; rw [List.foldl_cons, ih]; simp [loadStep]; omega
  unfold loadF; rw [this]; simp; omega
theorem loadF_snoc (xs : List Trip) (x : Trip) : loadF (xs ++ [x]) = loadStep (loadF xs) x := by simp [loadF, List.foldl_append]

theorem Bk.zip_at {n c : Nat} {M : Mgr} {fs : List Int} {Fs : List BF} {B : List (Int × BF)} (b : Bk n c M (fs.zip Fs ++ B)) (hl : Fs.length = fs.length) {i : Nat} (hi : i < fs.length) : M.valid (fs.getD i 0) = true ∧ (∀ a, M.sem (fs.getD i 0).toNat a = Fs.getD i (fun _ => false) a) ∧ Upto n (Fs.getD i (fun _ => false)) :=
  b.at (List.mem_append_left _ (mem_zip hi hl))

/-- 'Load' on the way. -/
structure LoJ (w : World) (p n c : Nat) (L0 : Lay) (B : List (Int × BF)) (x : World) (M : Mgr) (L : Lay) (av : Value) (rs : List Int) (Fs : List BF) : Prop where
  sd : Sd w p L0 x M L
  bk : Bk n c M (rs.zip Fs ++ B)
  row : x.ownsRow w.heap.size 26 1 av rs.length (rs.map intV)
  off : ∀ k, av.ownBlock = some k → ¬ L.at p k
  len : Fs.length = rs.length

theorem LoJ.no {w : World} {p n c : Nat} {L0 : Lay} {B : List (Int × BF)} {x y : World} {M : Mgr} {L : Lay} {av : Value} {rs : List Int} {Fs : List BF} (j : LoJ w p n c L0 B x M L av rs Fs) (k : Kp No x y) : LoJ w p n c L0 B y M L av rs Fs :=
  ⟨j.sd.no k, j.bk, ownsRow_kp j.row k (fun _ _ z => z), j.off, j.len⟩

def LoadOk (w : World) (p n : Nat) (L : Lay) (B : List (Int × BF)) (xs : List Trip) (c : Nat) (e : Ending) (w' : World) : Prop :=
  ∃ rv M' L' av rs, e = .returned (.tuple #[rv, .int .i64 0]) ∧ rs.length = xs.length + 2 ∧ SrcAt w' rv 1 xs.length ((rs.drop 2).map intV) ∧ LoJ w p n c L B w' M' L' av rs (loadF xs) ∧ rs.take 2 = [0, 1] ∧ (∀ g o m q, rv = .slice (some ⟨g, o, none⟩) m q → av.ownBlock = some g)

def LoadPost (w : World) (p n : Nat) (L : Lay) (B : List (Int × BF)) (xs : List Trip) (c : Nat) (e : Ending) (w' : World) : Prop :=
  (okAll n xs ∧ LoadOk w p n L B xs c e w') ∨ (¬ okAll n xs ∧ e = .returned (.tuple #[.slice none 0 0, .int .i64 1]) ∧ Kp No w w')

def LoR1 (w : World) (n : Nat) (xs : List Trip) (gk : Nat) (s16 : Value) (x : World) : Prop := ∃ k, k + gk = xs.length ∧ s16 = .int .i64 (k : Int) ∧ Kp No w x ∧ ∀ i, i < k → okAt n i (xs.getD i (0, 0, 0))

def LoR2 (w : World) (p n c : Nat) (L0 : Lay) (B : List (Int × BF)) (xs : List Trip) (gk : Nat) (s8 s54 : Value) (x : World) : Prop :=
  ∃ k M L av rs, k + gk = xs.length ∧ s54 = .int .i64 (k : Int) ∧ av = s8 ∧ rs.length = k + 2 ∧ rs.take 2 = [0, 1] ∧ LoJ w p n (c + 400 * k) L0 B x M L av rs (loadF (xs.take k))

theorem LoJ.start {w : World} {p n c : Nat} {L0 : Lay} {B : List (Int × BF)} {x : World} {M : Mgr} (sd : Sd w p L0 x M L0) (hL : ∀ k, L0.at p k → k < x.heap.size) (b : Bk n c M B) (hx : w.heap.size ≤ x.heap.size) :
    LoJ w p n c L0 B (x.alloc (.cells #[.int .i64 0, .int .i64 1] 26)) M L0 (.slice (some ⟨x.heap.size, 0, none⟩) 2 2) [0, 1] (loadF []) := by
  refine ⟨sd.no (Kp.alloc _), b.consts, ⟨rfl, .inr ⟨x.heap.size, 2, #[.int .i64 0, .int .i64 1], rfl, hx, heap_alloc_new _ _, Nat.le_refl _, by simp [maxLen_val], rfl, rfl⟩⟩, fun k hk h => ?_, rfl⟩
  simp [Value.ownBlock] at hk
  have := hL k h
  omega

/-- The join of two Refs of the list. -/
theorem LoJ.join {w : World} {p n c : Nat} {L0 : Lay} {B : List (Int × BF)} {x : World} {M : Mgr} {L : Lay} {av : Value} {rs : List Int} {Fs : List BF} (j : LoJ w p n c L0 B x M L av rs Fs) (hn : n ≤ 6) (hc : c ≤ 100000000) {v lo hi : Nat} (hv : v < n) (hl : lo < rs.length) (hh : hi < rs.length) :
    ∃ J : Mgr × Nat, J = M.joinM v (rs.getD lo 0).toNat (rs.getD hi 0).toNat ∧ J.1.nodes.length ≤ big ∧ v < M.n ∧ M.stored (rs.getD lo 0).toNat ∧ M.stored (rs.getD hi 0).toNat ∧ (0 ≤ rs.getD lo 0) ∧ (0 ≤ rs.getD hi 0) ∧ J.1.stored J.2 ∧
      Bk n (c + 400) (J.1.show J.2) ((rs ++ [(J.2 : Int)]).zip (Fs ++ [fun a => if a v then Fs.getD hi (fun _ => false) a else Fs.getD lo (fun _ => false) a]) ++ B) := by
  obtain ⟨v1, s1, u1⟩ := j.bk.zip_at j.len hl
  obtain ⟨v2, s2, u2⟩ := j.bk.zip_at j.len hh
  obtain ⟨k1, e1, st1, _⟩ := Mgr.valid_nat j.bk.wf v1
  obtain ⟨k2, e2, st2, _⟩ := Mgr.valid_nat j.bk.wf v2
  have hv' : v < M.n := by rw [j.bk.nn]; exact hv
  have h1 : M.stored (rs.getD lo 0).toNat := by rw [e1, Int.toNat_natCast]; exact st1
  have h2 : M.stored (rs.getD hi 0).toNat := by rw [e2, Int.toNat_natCast]; exact st2
  have js := Mgr.join_spec j.bk.wf hv' h1 h2
  have eF : Mgr.joinF M v (rs.getD lo 0).toNat (rs.getD hi 0).toNat = fun a => if a v then Fs.getD hi (fun _ => false) a else Fs.getD lo (fun _ => false) a := by
    funext a; unfold Mgr.joinF; rw [s1, s2]
  have hup : Upto n (fun a => if a v then Fs.getD hi (fun _ => false) a else Fs.getD lo (fun _ => false) a) := fun a b hab => by
    show (if a v = true then _ else _) = (if b v = true then _ else _)
    rw [hab v hv, u1 a b hab, u2 a b hab]
  have jc := Mgr.join_cost j.bk.wf hv' h1 h2 (s := 2 ^ M.n) (Mgr.states_any (by rw [eF]; exact hup.reads j.bk.nn))
  rw [j.bk.nn] at jc
  have nc := n_cost hn
  have hcost := j.bk.cost
  have ops := Mgr.show_ops (c := 400) j.bk.wf js.wf js.ext js.st js.sem (by omega)
  refine ⟨_, rfl, by unfold big; omega, hv', h1, h2, by omega, by omega, js.st, ?_⟩
  have b' := j.bk.push (c' := c + 400) (F := fun a => if a v then Fs.getD hi (fun _ => false) a else Fs.getD lo (fun _ => false) a) (by rw [eF] at ops; exact ops) hup (Nat.le_refl _)
  refine b'.sub (fun y hy => ?_)
  rcases List.mem_append.1 hy with hy | hy
  · rw [List.zip_append j.len.symm] at hy
    rcases List.mem_append.1 hy with hy | hy
    · exact List.mem_cons_of_mem _ (List.mem_append_left _ hy)
    · simp at hy
      subst hy
      exact List.Mem.head _
  · exact List.mem_cons_of_mem _ (List.mem_append_right _ hy)

theorem info_ref' : (Try.prog.info? 26).map (fun i => (i.zero, i.size, i.bytes)) = some (some (.int .i64 0), 1, 8) := by kernel_rfl

abbrev boxN (x : Trip) : Obj := .cells #[.int .i64 x.1, .int .i64 x.2.1, .int .i64 x.2.2] 65

/-- 'Load' with a box of the round's own. -/
structure LoB (w : World) (p n c : Nat) (L0 : Lay) (B : List (Int × BF)) (x : World) (M : Mgr) (L : Lay) (av : Value) (rs : List Int) (b : Nat) (t : Trip) : Prop where
  sd : Sd w p L0 x M L
  row : x.ownsRow w.heap.size 26 1 av rs.length (rs.map intV)
  off : ∀ k, av.ownBlock = some k → ¬ L.at p k
  bx : x.heap[b]? = some (boxN t)
  nb : ¬ L.at p b
theorem LoB.no {w : World} {p n c : Nat} {L0 : Lay} {B : List (Int × BF)} {x y : World} {M : Mgr} {L : Lay} {av : Value} {rs : List Int} {b : Nat} {t : Trip} (j : LoB w p n c L0 B x M L av rs b t) (k : Kp No x y) : LoB w p n c L0 B y M L av rs b t :=
  ⟨j.sd.no k, ownsRow_kp j.row k (fun _ _ z => z), j.off, by rw [k.block _ (heap_lt j.bx) (fun z => z)]; exact j.bx, j.nb⟩
theorem LoB.step {w : World} {p n c : Nat} {L0 : Lay} {B : List (Int × BF)} {x y : World} {M M' : Mgr} {L : Lay} {av : Value} {rs : List Int} {b : Nat} {t : Trip} {u : Value} {e : Ending} (j : LoB w p n c L0 B x M L av rs b t) (h : Ret p L x M' u e y) : e = .returned u ∧ ∃ L', LoB w p n c L0 B y M' L' av rs b t := by
  obtain ⟨L', he, r, k, f⟩ := h
  refine ⟨he, L', ⟨r, j.sd.kp.trans j.sd.fr k, fun z hz => ?_⟩, ownsRow_kp j.row k j.off, fun z hz hx => ?_, by rw [k.block b (heap_lt j.bx) j.nb]; exact j.bx, fun hx => ?_⟩
  · rcases f z hz with h1 | h1
    · exact j.sd.fr z h1
    · right; have := j.sd.kp.size; omega
  · rcases f z hx with h1 | h1
    · exact j.off z hz h1
    · have := (j.row.lt z hz).2; omega
  · rcases f b hx with h1 | h1
    · exact j.nb h1
    · have := heap_lt j.bx; omega
theorem LoB.cells {w : World} {p n c : Nat} {L0 : Lay} {B : List (Int × BF)} {x : World} {M : Mgr} {L : Lay} {ga m ca : Nat} {rs : List Int} {b : Nat} {t : Trip} (j : LoB w p n c L0 B x M L (.slice (some ⟨ga, 0, none⟩) m ca) rs b t) {lo hi : Nat} (hl : lo < rs.length) (hh : hi < rs.length) :
    x.cell? ⟨b, 0, none⟩ = some (.int .i64 t.1) ∧ x.cell? ⟨b, 1, none⟩ = some (.int .i64 t.2.1) ∧ x.cell? ⟨b, 2, none⟩ = some (.int .i64 t.2.2) ∧ x.cell? ⟨ga, lo, none⟩ = some (.int .i64 (rs.getD lo 0)) ∧ x.cell? ⟨ga, hi, none⟩ = some (.int .i64 (rs.getD hi 0)) := by
  obtain ⟨g, cap, hv, _, _, _, hc, _⟩ := ownsRow_open j.row (by omega)
  cases hv
  refine ⟨?_, ?_, ?_, hc lo _ (by simp [intV, hl]), hc hi _ (by simp [intV, hh])⟩ <;> simp [World.cell?, j.bx]

theorem lo_at {g ga n c : Nat} {x : World} {o : Obj} (h : g = ga ∨ g = x.heap.size + 1) : (Value.slice (some ⟨ga, 0, none⟩) n c).ownBlock = some g ∨ g = (x.alloc o).heap.size := by
  rcases h with h | h
  · exact .inl (by rw [h]; rfl)
  · exact .inr (by simpa using h)
theorem lo_keep {x z : World} {b ga lo hi n : Nat} {t : Trip} {rl rh : Value} (h : x.cell? ⟨b, 0, none⟩ = some (.int .i64 t.1) ∧ x.cell? ⟨b, 1, none⟩ = some (.int .i64 t.2.1) ∧ x.cell? ⟨b, 2, none⟩ = some (.int .i64 t.2.2) ∧ x.cell? ⟨ga, lo, none⟩ = some rl ∧ x.cell? ⟨ga, hi, none⟩ = some rh)
    (hgrow : x.grownBy z (some ga)) (hkept : ∀ j, j < n → z.cell? ⟨ga, j, none⟩ = x.cell? ⟨ga, j, none⟩) (hl : lo < n) (hh : hi < n) (hb : b < x.heap.size) (hne : ga ≠ b) :
    z.cell? ⟨b, 0, none⟩ = some (.int .i64 t.1) ∧ z.cell? ⟨b, 1, none⟩ = some (.int .i64 t.2.1) ∧ z.cell? ⟨b, 2, none⟩ = some (.int .i64 t.2.2) ∧ z.cell? ⟨ga, lo, none⟩ = some rl ∧ z.cell? ⟨ga, hi, none⟩ = some rh := by
  have e : ∀ i, z.cell? ⟨b, i, none⟩ = x.cell? ⟨b, i, none⟩ := fun i => hgrow.cell_far ⟨b, i, none⟩ hb (fun e => hne (Option.some.inj e).symm)
  exact ⟨by rw [e]; exact h.1, by rw [e]; exact h.2.1, by rw [e]; exact h.2.2.1, by rw [hkept lo hl]; exact h.2.2.2.1, by rw [hkept hi hh]; exact h.2.2.2.2⟩

theorem LoB.keep {w : World} {p n c : Nat} {L0 : Lay} {B : List (Int × BF)} {y z : World} {M : Mgr} {L : Lay} {ga m ca : Nat} {rs : List Int} {b : Nat} {t : Trip} {o : Obj} (j : LoB w p n c L0 B y M L (.slice (some ⟨ga, 0, none⟩) m ca) rs b t) (hgrow : (y.alloc o).grownBy z (some ga))
    (hkept : ∀ j, j < rs.length → z.cell? ⟨ga, j, none⟩ = (y.alloc o).cell? ⟨ga, j, none⟩) {lo hi : Nat} (hl : lo < rs.length) (hh : hi < rs.length) :
    z.cell? ⟨b, 0, none⟩ = some (.int .i64 t.1) ∧ z.cell? ⟨b, 1, none⟩ = some (.int .i64 t.2.1) ∧ z.cell? ⟨b, 2, none⟩ = some (.int .i64 t.2.2) ∧ z.cell? ⟨ga, lo, none⟩ = some (.int .i64 (rs.getD lo 0)) ∧ z.cell? ⟨ga, hi, none⟩ = some (.int .i64 (rs.getD hi 0)) :=
  lo_keep ((j.no (Kp.alloc o)).cells hl hh) hgrow hkept hl hh (Nat.lt_of_lt_of_le (heap_lt j.bx) (by simp)) (fun e => row_box j.row j.bx (by decide) (by rw [e]; rfl))

theorem LoB.push {w : World} {p n c c2 : Nat} {L0 : Lay} {B : List (Int × BF)} {x A y : World} {M : Mgr} {L : Lay} {av : Value} {rs : List Int} {b : Nat} {t : Trip} {r : Int} {Fs : List BF} {g cap : Nat} (j : LoB w p n c L0 B x M L av rs b t) (bk : Bk n c2 M ((rs ++ [r]).zip Fs ++ B)) (hl : Fs.length = rs.length + 1)
    (kA : Kp No x A) (hs : A.heap.size = x.heap.size + 1) (hown : y.ownsRow w.heap.size 26 1 (.slice (some ⟨g, 0, none⟩) (rs.length + 1) cap) (rs.length + 1) (rs.map intV ++ [.int .i64 r])) (hgrow : A.grownBy y av.ownBlock) (hat : av.ownBlock = some g ∨ g = A.heap.size) :
    LoJ w p n c2 L0 B y M L (.slice (some ⟨g, 0, none⟩) (rs.length + 1) cap) (rs ++ [r]) Fs := by
  have kg : Kp (fun k => av.ownBlock = some k) x y := grown_no kA hgrow
  refine ⟨⟨j.sd.rep.kp kg (fun k e => j.off k e), j.sd.kp.trans (A' := fun k => av.ownBlock = some k) (fun k e => .inr (j.row.lt k e).1) kg, j.sd.fr⟩, bk, by simpa [intV] using hown, fun k hk hx => ?_, by rw [hl]; simp⟩
  simp [Value.ownBlock] at hk
  subst hk
  rcases hat with h | h
  · exact j.off _ h hx
  · have := j.sd.rep.lt _ hx; omega

set_option maxRecDepth 100000 in
set_option maxHeartbeats 4000000 in
theorem Load_ok {p n c : Nat} {M : Mgr} {L : Lay} {B : List (Int × BF)} (xs : List Trip) {nv : Value} {w : World} (hn : n ≤ 6) (R : Rep w p M L) (bk : Bk n c M B) (hc : c ≤ 1000000) (hxs : xs.length ≤ 20000) (src : SrcAt w nv 3 xs.length (xs.flatMap cells3)) (hoff : xs.length ≠ 0 → ∀ g o m q, nv = .slice (some ⟨g, o, none⟩) m q → ¬ L.at p g) :
    Calls Try.prog 26 #[ptr p, nv] w (LoadPost w p n L B xs (c + 400 * xs.length)) := by
  obtain ⟨i0, hi0, hz0, hz1, hz2⟩ := info_parts info_ref'
  have HS := Lib.hid src
  have HO := Lib.hid hoff
  obtain ⟨an, cn, rfl⟩ := src.form
  clear src hoff
  have hlim : ¬ (20000 : Int) < xs.length := by omega
  have VAR := Lib.hid (fun (x : World) (k : Kp No w x) (v : Int) (b : Bool) (h : decide (0 ≤ v ∧ v < M.n) = b) => variable_as v b (R.no k) h)
  have HN := Lib.hid bk.nn
  have SD0 := Lib.hid (Sd.start R)
  have HR := Lib.hid R
  have BK0 := Lib.hid bk
  clear R bk
  go_enter Try.func26, Try.ntmps26
  go_upto_block 0 with (fail)
  go_cut [] (fun y => okAll n xs ∧ Kp No w y)
  case first =>
    as_aux_lemma =>
      go_wp2_with fail
      go_loopg [16] xs.length (fun gk s16 x => LoR1 w n xs gk s16 x)
      case atStart => exact ⟨0, by omega, rfl, Kp.refl _ _, fun i hi => by omega⟩
      case round =>
        obtain ⟨k, hk, rfl, kp, hpre⟩ := hrel
        by_cases hlt : k < xs.length
        · obtain ⟨g, o, q, hv, hg, hcell⟩ := (HS.out.no kp).cellAt (by omega)
          cases hv
          obtain ⟨e0, e1, e2⟩ := cells3_get xs hlt
          have f0 : wr.cell? ⟨g, o + k * 3, none⟩ = some (.int .i64 (xs.getD k (0, 0, 0)).1) := hcell _ _ e0
          have f1 : wr.cell? ⟨g, o + k * 3 + 1, none⟩ = some (.int .i64 (xs.getD k (0, 0, 0)).2.1) := hcell _ _ e1
          have f2 : wr.cell? ⟨g, o + k * 3 + 2, none⟩ = some (.int .i64 (xs.getD k (0, 0, 0)).2.2) := hcell _ _ e2
          have hlti : (k : Int) < xs.length := by omega
          have hkb : (k : Int) ≤ 20000 := by omega
          have HK := Lib.hid hk
          have KP := Lib.hid kp
          have NX : Hid (okAt n k (xs.getD k (0, 0, 0)) → ∀ m, LoR1 w n xs (xs.length - (k + 1)) (.int .i64 ((k + 1 : Nat) : Int)) (wr.alloc m)) := Lib.hid (fun h m => ⟨k + 1, by omega, rfl, kp.trans_no (Kp.alloc _), fun i hi => by
            rcases Nat.lt_or_ge i k with x | x
            · exact hpre i x
            · rw [show i = k by omega]; exact h⟩)
          have BAD : Hid (¬ okAt n k (xs.getD k (0, 0, 0)) → ∀ m, LoadPost w p n L B xs (c + 400 * xs.length) (.returned (.tuple #[.slice none 0 0, .int .i64 1])) (wr.alloc m)) := Lib.hid (fun h m => .inr ⟨fun ha => h (ha k hlt), rfl, kp.trans_no (Kp.alloc _)⟩)
          clear hk kp hpre hcell e0 e1 e2
          generalize xs.getD k (0, 0, 0) = x at *
          have hkw : (k : Int) + 1 ≤ 20001 := by omega
          by_cases q0 : 0 ≤ x.1 ∧ x.1 < n
          · have V1 := Lib.hid (fun m => VAR.out (wr.alloc m) (KP.out.trans_no (Kp.alloc _)) x.1 true (by rw [HN.out]; simpa using q0))
            by_cases q1 : x.2.1 < 0
            · have RB := Lib.hid (BAD.out (fun h => by have := h.2.1.1; omega))
              clear BAD NX q0
              go_wp2_with fail
              refine (V1.out _).mono ?_
              rintro e w' ⟨rfl, rfl⟩
              go_wp2_with fail
              go_ret2
              exact RB.out _
            · have q1' : decide (x.2.1 < 0) = false := decide_eq_false q1
              by_cases q2 : (k : Int) + 1 < x.2.1
              · have RB := Lib.hid (BAD.out (fun h => by have := h.2.1.2; omega))
                clear BAD NX q0
                go_wp2_with fail
                refine (V1.out _).mono ?_
                rintro e w' ⟨rfl, rfl⟩
                go_wp2_with fail
                go_ret2
                exact RB.out _
              · have q2' : decide ((k : Int) + 1 < x.2.1) = false := decide_eq_false q2
                by_cases q3 : x.2.2 < 0
                · have RB := Lib.hid (BAD.out (fun h => by have := h.2.2.1; omega))
                  clear BAD NX q0
                  go_wp2_with fail
                  refine (V1.out _).mono ?_
                  rintro e w' ⟨rfl, rfl⟩
                  go_wp2_with fail
                  go_ret2
                  exact RB.out _
                · have q3' : decide (x.2.2 < 0) = false := decide_eq_false q3
                  by_cases q4 : (k : Int) + 1 < x.2.2
                  · have RB := Lib.hid (BAD.out (fun h => by have := h.2.2.2; omega))
                    clear BAD NX q0
                    go_wp2_with fail
                    refine (V1.out _).mono ?_
                    rintro e w' ⟨rfl, rfl⟩
                    go_wp2_with fail
                    go_ret2
                    exact RB.out _
                  · have q4' : decide ((k : Int) + 1 < x.2.2) = false := decide_eq_false q4
                    have RN := Lib.hid (NX.out ⟨q0, ⟨by omega, by omega⟩, ⟨by omega, by omega⟩⟩)
                    clear BAD NX q0
                    go_wp2_with fail
                    refine (V1.out _).mono ?_
                    rintro e w' ⟨rfl, rfl⟩
                    go_wp2_with fail
                    go_roundg (xs.length - (k + 1))
                    case measure => have := HK.out; omega
                    case rel => exact RN.out _
          · have V1 := Lib.hid (fun m => VAR.out (wr.alloc m) (KP.out.trans_no (Kp.alloc _)) x.1 false (by rw [HN.out]; simpa using q0))
            have RB := Lib.hid (BAD.out (fun h => q0 h.1))
            clear BAD NX q0
            go_wp2_with fail
            refine (V1.out _).mono ?_
            rintro e w' ⟨rfl, rfl⟩
            go_wp2_with fail
            go_ret2
            exact RB.out _
        · obtain rfl : k = xs.length := by omega
          have KP := Lib.hid (And.intro (show okAll n xs from hpre) kp)
          have hge : ¬ (xs.length : Int) < xs.length := by omega
          clear hk kp hpre
          go_wp2_with fail
          go_meet
          case rel => exact KP.out
  case rest =>
  obtain ⟨hall, k1⟩ := hcut
  have OK := Lib.hid hall
  have J0 := Lib.hid (LoJ.start (SD0.out.no k1) (fun k h => (HR.out.no k1).lt k h) BK0.out k1.size)
  have K1 := Lib.hid k1
  clear hall k1 VAR
  go_wp2_with fail
  go_loopg [8, 54] xs.length (fun gk s8 s54 x => LoR2 w p n c L B xs gk s8 s54 x)
  case atStart => exact ⟨0, M, L, _, [0, 1], by omega, rfl, rfl, rfl, rfl, J0.out⟩
  case round =>
    clear J0
    obtain ⟨k, M1, L1, av, rs, hk, rfl, e8, hrl, htk, j⟩ := hrel
    subst e8
    by_cases hlt : k < xs.length
    · obtain ⟨g, o, q, hv, hg, hcell⟩ := (HS.out.kp j.sd.kp HO.out).cellAt (by omega)
      cases hv
      obtain ⟨e0, e1, e2⟩ := cells3_get xs hlt
      have f0 : wr.cell? ⟨g, o + k * 3, none⟩ = some (.int .i64 (xs.getD k (0, 0, 0)).1) := hcell _ _ e0
      have f1 : wr.cell? ⟨g, o + k * 3 + 1, none⟩ = some (.int .i64 (xs.getD k (0, 0, 0)).2.1) := hcell _ _ e1
      have f2 : wr.cell? ⟨g, o + k * 3 + 2, none⟩ = some (.int .i64 (xs.getD k (0, 0, 0)).2.2) := hcell _ _ e2
      obtain ⟨⟨o1, o2⟩, ⟨o3, o4⟩, ⟨o5, o6⟩⟩ := OK.out k hlt
      have hlf : loadF (xs.take (k + 1)) = loadStep (loadF (xs.take k)) (xs.getD k (0, 0, 0)) := by
        have e : xs.getD k (0, 0, 0) = xs[k] := by simp [hlt]
        rw [List.take_succ_eq_append_getElem hlt, loadF_snoc, e]
      have hlti : (k : Int) < xs.length := by omega
      have HK := Lib.hid hk
      generalize xs.getD k (0, 0, 0) = x at *
      obtain ⟨xv, xl, xh⟩ := x
      simp only at o1 o2 o3 o4 o5 o6 f0 f1 f2
      obtain ⟨v, rfl⟩ := Int.eq_ofNat_of_zero_le o1
      obtain ⟨lo, rfl⟩ := Int.eq_ofNat_of_zero_le o3
      obtain ⟨hi, rfl⟩ := Int.eq_ofNat_of_zero_le o5
      have hlo : lo < rs.length := by omega
      have hhi : hi < rs.length := by omega
      obtain ⟨J, hJ, jb, jv, jl, jh, jl0, jh0, jst, jbk⟩ := j.join hn (by omega) (v := v) (by omega) hlo hhi
      have LB : LoB w p n c L B ((wr.alloc (boxN ((v : Int), (lo : Int), (hi : Int)))).drew) M1 L1 av rs wr.heap.size ((v : Int), (lo : Int), (hi : Int)) := by
        refine LoB.no ⟨j.sd.no (Kp.alloc _), ownsRow_kp j.row (Kp.alloc _) (fun _ _ z => z), j.off, heap_alloc_new _ _, fun h => ?_⟩ Kp.drew
        have := j.sd.rep.lt _ h; omega
      obtain ⟨ga, ca, rfl, _⟩ := ownsRow_open j.row (by omega)
      have HLB := Lib.hid LB
      have S0 := Lib.hid (LB.cells hlo hhi)
      have JC : Hid (Calls Try.prog 51 #[ptr p, .int .i64 (v : Int), .int .i64 (rs.getD lo 0), .int .i64 (rs.getD hi 0)] ((wr.alloc (boxN ((v : Int), (lo : Int), (hi : Int)))).drew) (Ret p L1 ((wr.alloc (boxN ((v : Int), (lo : Int), (hi : Int)))).drew) J.1 (.int .i64 (J.2 : Int)))) := Lib.hid (by
        have := join_ok v (rs.getD lo 0).toNat (rs.getD hi 0).toNat LB.sd.rep jv jl jh (by rw [← hJ]; exact jb)
        rw [← hJ, Int.toNat_of_nonneg jl0, Int.toNat_of_nonneg jh0] at this
        exact this)
      have SC : Hid (∀ (y : World) (L' : Lay), Rep y p J.1 L' → Calls Try.prog 46 #[ptr p, .int .i64 (J.2 : Int)] y (Ret p L' y (J.1.show J.2) (.int .i64 (J.2 : Int)))) := Lib.hid (fun y L' Ry => show_ok J.2 Ry jst)
      have FIN : Hid (∀ (y A z : World) (L' : Lay) (g cap : Nat), LoB w p n c L B y (J.1.show J.2) L' (.slice (some ⟨ga, 0, none⟩) rs.length ca) rs wr.heap.size ((v : Int), (lo : Int), (hi : Int)) → Kp No y A → A.heap.size = y.heap.size + 1 → z.ownsRow w.heap.size 26 1 (.slice (some ⟨g, 0, none⟩) (rs.length + 1) cap) (rs.length + 1) (rs.map intV ++ [.int .i64 (J.2 : Int)]) → A.grownBy z (Value.slice (some ⟨ga, 0, none⟩) rs.length ca).ownBlock → ((Value.slice (some ⟨ga, 0, none⟩) rs.length ca).ownBlock = some g ∨ g = A.heap.size) →
          LoR2 w p n c L B xs (xs.length - (k + 1)) (.slice (some ⟨g, 0, none⟩) (rs.length + 1) cap) (.int .i64 ((k + 1 : Nat) : Int)) z) := Lib.hid (fun y A z L' g cap lb kA hs hown hgrow hat => by
        refine ⟨k + 1, J.1.show J.2, L', _, rs ++ [(J.2 : Int)], by omega, rfl, rfl, by simp [hrl], by rw [List.take_append_of_le_length (by omega)]; exact htk, ?_⟩
        rw [show c + 400 * (k + 1) = c + 400 * k + 400 by omega, hlf]
        exact lb.push jbk (by simp [loadStep, j.len]) kA hs hown hgrow hat)
      have CELLS : Hid (∀ y M2 L', LoB w p n c L B y M2 L' (.slice (some ⟨ga, 0, none⟩) rs.length ca) rs wr.heap.size ((v : Int), (lo : Int), (hi : Int)) → _) := Lib.hid (fun y M2 L' h => LoB.cells h hlo hhi)
      have KEEPX : Hid (∀ y z M2 L' o, LoB w p n c L B y M2 L' (.slice (some ⟨ga, 0, none⟩) rs.length ca) rs wr.heap.size ((v : Int), (lo : Int), (hi : Int)) → (y.alloc o).grownBy z (some ga) → (∀ j, j < rs.length → z.cell? ⟨ga, j, none⟩ = (y.alloc o).cell? ⟨ga, j, none⟩) → _) := Lib.hid (fun y z M2 L' o j h1 h2 => j.keep h1 h2 hlo hhi)
      have hloi : (lo : Int) < rs.length := by omega
      have hhii : (hi : Int) < rs.length := by omega
      have hrsb : rs.length ≤ 30000 := by omega
      have HRS := Lib.hid hrl
      clear hk hrl htk j hcell e0 e1 e2 hJ jb jv jl jh jl0 jh0 jst jbk LB hlf o1 o2 o3 o4 o5 o6
      generalize rs.getD lo 0 = rl at *
      generalize rs.getD hi 0 = rh at *
      go_upto_region 13 with (fail)
      clear f0 f1 f2
      go_region_held3 (fun y => y.cell? ⟨wr.heap.size, 0, none⟩ = some (.int .i64 (v : Int)) ∧ y.cell? ⟨wr.heap.size, 1, none⟩ = some (.int .i64 (lo : Int)) ∧ y.cell? ⟨wr.heap.size, 2, none⟩ = some (.int .i64 (hi : Int)) ∧ y.cell? ⟨ga, lo, none⟩ = some (.int .i64 rl) ∧ y.cell? ⟨ga, hi, none⟩ = some (.int .i64 rh)) (first | exact S0.out | exact SA.out | exact SB.out | exact SC2.out | exact SD2.out)
        (first | (go_at_call 51; (with_reducible refine JC.out.mono ?_); intro e wa ha; obtain ⟨rfl, La, ja⟩ := HLB.out.step ha; have SA := Lib.hid (CELLS.out _ _ _ ja); have JA := Lib.hid ja; clear ha ja) | (go_at_call 46; (with_reducible refine (SC.out _ _ JA.out.sd.rep).mono ?_); intro e wb hb; obtain ⟨rfl, Lb, jb⟩ := JA.out.step hb; have SB := Lib.hid (CELLS.out _ _ _ jb); have SC2 := Lib.hid (CELLS.out _ _ _ (jb.no (Kp.alloc (.cells #[.int .i64 (J.2 : Int)] 26)))); have hwb := jb.sd.kp.size; have own := jb.row; have JB := Lib.hid jb; clear hb jb) | (refine step_append_kept (by rfl) _ _ (by rfl) Try.underlying34 hi0 hz0 hz1 hz2 rfl (by rfl) (own.alloc _) ⟨wb.heap.size, 0, none⟩ 1 (by rfl) (u := .int .i64 (J.2 : Int)) (World.news_of_block (heap_alloc_new _ _)) rfl (by unfold maxLen; omega) (by omega) (by simp; omega) (wb.heap.size + 1) (by simp) ?_; intro g2 cap z hown hgrow hat hlt2 hkept; have NX := Lib.hid (FIN.out wb _ z Lb g2 cap JB.out (Kp.alloc _) (by simp) hown hgrow (lo_at hat)); have SD2 := Lib.hid (KEEPX.out _ _ _ _ _ JB.out hgrow hkept); clear hown hgrow hat hlt2 own hkept))
      all_goals
        go_wp2_with fail
        go_roundg (xs.length - (k + 1))
        case measure => have := HK.out; omega
        case rel => exact NX.out
    · obtain rfl : k = xs.length := by omega
      rw [List.take_length] at j
      obtain ⟨ga, ca, rfl, hca, hcm, ⟨cur, hcur, hcs, htake⟩, hcell, _⟩ := ownsRow_open j.row (by omega)
      have hge : ¬ (xs.length : Int) < xs.length := by omega
      have hcai : (rs.length : Int) ≤ ca := by omega
      have hcab : (ca : Int) ≤ 9223372036854775807 := by have := maxLen_val; omega
      have h2i : (2 : Int) ≤ rs.length := by omega
      have hsub : (rs.length : Int) - 2 = (xs.length : Int) := by omega
      have P : Hid (∀ rv, SrcAt wr rv 1 xs.length ((rs.drop 2).map intV) → (∀ g o m q, rv = .slice (some ⟨g, o, none⟩) m q → g = ga) → LoadPost w p n L B xs (c + 400 * xs.length) (.returned (.tuple #[rv, .int .i64 0])) wr) := Lib.hid (fun rv h1 h2 =>
        .inl ⟨OK.out, rv, M1, L1, _, rs, rfl, hrl, h1, j, htk, fun g o m q e => by rw [h2 g o m q e]; rfl⟩)
      have SRC : Hid (∀ q, SrcAt wr (.slice (some ⟨ga, 2, none⟩) xs.length q) 1 xs.length ((rs.drop 2).map intV)) := Lib.hid (fun q => ⟨_, q, rfl, by simp [hrl], .inr ⟨ga, 2, rfl, heap_lt hcur, fun i u hu => by
        refine hcell (2 + i) u ?_
        rw [List.getElem?_map, List.getElem?_drop] at hu
        rw [List.getElem?_map]; exact hu⟩⟩)
      have SRC0 : Hid (xs.length = 0 → ∀ ao q, SrcAt wr (.slice ao 0 q) 1 xs.length ((rs.drop 2).map intV)) := Lib.hid (fun h ao q => ⟨ao, q, by rw [h], by simp [hrl], .inl h⟩)
      have HRL := Lib.hid hrl
      clear hk hrl htk j hcell hcur hcs htake hcm
      have hr2 : rs.length - 2 = xs.length := by have := HRL.out; omega
      have HR2 := Lib.hid hr2
      clear hr2
      by_cases hca2 : ca = 2
      · have hx0 : xs.length = 0 := by have := HRL.out; omega
        have HX0 := Lib.hid hx0
        clear hx0
        go_wp2_with fail
        go_ret2
        refine P.out _ ?_ (fun g o m q e => by cases e; rfl)
        rw [HR2.out]
        have := SRC0.out HX0.out (some ⟨ga, 0, none⟩)
        rw [HX0.out] at this ⊢
        exact this _
      · go_wp2_with fail
        go_ret2
        refine P.out _ ?_ (fun g o m q e => by cases e; rfl)
        rw [HR2.out]
        exact SRC.out _

end Go.Proofs.Ytifompekiockmaa
