/-
  How a manager of the package bdd lies in memory.
-/
import Derived.Test.YtgglkldoclejaaaDoorKeys
import Derived.Test.YtgglkldoclejaaaDoorBdd
namespace Go.Proofs.YtgglkldoclejaaaDoor
open Go.RowKit

def natV (n : Nat) : Value := .int .i64 (n : Int)
def ndCells (x : Nd) : List Value := [.int .i64 x.1, .int .i64 (x.2.1 : Int), .int .i64 (x.2.2 : Int)]
abbrev ptr (p : Nat) : Value := .pointer (some ⟨p, 0, none⟩)
/-- No store of nodes grows beyond this. -/
def big : Nat := 4398046511104

structure Lay where
  so : Value
  sl : Value
  sn : Value
  ss : Value
  sf : Value
  bu : Nat
  bm : Nat
  bc : Nat

/-- The blocks that a manager at p owns. -/
def Lay.at (L : Lay) (p : Nat) (k : Nat) : Prop :=
  k = p ∨ k = L.bu ∨ k = L.bm ∨ L.so.ownBlock = some k ∨ L.sl.ownBlock = some k ∨ L.sn.ownBlock = some k ∨ L.ss.ownBlock = some k ∨ L.sf.ownBlock = some k

structure Raw (w : World) (p : Nat) (L : Lay) (order level : List Nat) (nodes : List Nd) (shown : List Bool) (free : List Nat) (U F : Trip → Option Nat) : Prop where
  mgr : w.heap[p]? = some (.cells #[L.so, L.sl, L.sn, L.ss, L.sf, .map (some L.bu), .map (some L.bm), .map (some L.bc)] 105 (0, 0))
  order : w.ownsRow 0 3 1 L.so order.length (order.map natV)
  level : w.ownsRow 0 3 1 L.sl level.length (level.map natV)
  nodes : w.ownsRow 0 107 3 L.sn nodes.length (nodes.flatMap ndCells)
  shown : w.ownsRow 0 4 1 L.ss shown.length (shown.map .bool)
  free : w.ownsRow 0 43 1 L.sf free.length (free.map natV)
  uniq : MapAs w L.bu tripV natV U
  memo : MapAs w L.bm tripV natV F
  ne : L.bu ≠ L.bm

namespace Mgr
/-- What the map 'unique' holds. -/
def uq (M : Mgr) (x : Trip) : Option Nat := if 0 ≤ x.1 ∧ 0 ≤ x.2.1 ∧ 0 ≤ x.2.2 then M.find (x.1, x.2.1.toNat, x.2.2.toNat) else none
/-- What the map 'memo' holds is right. -/
def Sound (M : Mgr) (F : Trip → Option Nat) : Prop := ∀ x r, F x = some r → ∃ f g h : Nat, x = ((f : Int), (g : Int), (h : Int)) ∧ M.stored f ∧ M.stored g ∧ M.stored h ∧ M.stored r ∧
  ∀ a, M.sem r a = if M.sem f a then M.sem g a else M.sem h a

theorem Sound.ext {M M' : Mgr} {F : Trip → Option Nat} (h : M.WF) (s : M.Sound F) (e : Ext M M') : M'.Sound F := by
  intro x r hr
  obtain ⟨f, g, k, hx, sf, sg, sk, sr, hs⟩ := s x r hr
  exact ⟨f, g, k, hx, e.stored sf, e.stored sg, e.stored sk, e.stored sr, fun a => by rw [e.sem h sr, e.sem h sf, e.sem h sg, e.sem h sk, hs]⟩
end Mgr

/-- The manager at p is M. -/
structure Rep (w : World) (p : Nat) (M : Mgr) (L : Lay) : Prop where
  raw : ∃ F, Raw w p L M.order M.level M.nodes M.shown M.free M.uq F ∧ M.Sound F
  wf : M.WF

section
variable {w : World} {p : Nat} {L : Lay} {order level : List Nat} {nodes : List Nd} {shown : List Bool} {free : List Nat} {U F : Trip → Option Nat}

theorem Raw.lt (R : Raw w p L order level nodes shown free U F) : ∀ k, L.at p k → k < w.heap.size := by
  intro k hk
  have row : ∀ {e size v n xs}, w.ownsRow 0 e size v n xs → v.ownBlock = some k → k < w.heap.size := fun h hv => (h.lt k hv).2
  rcases hk with rfl | rfl | rfl | h | h | h | h | h
  · exact heap_lt R.mgr
  · exact R.uniq.lt
  · exact R.memo.lt
  · exact row R.order h
  · exact row R.level h
  · exact row R.nodes h
  · exact row R.shown h
  · exact row R.free h

theorem Raw.kp {A : Nat → Prop} {w' : World} (R : Raw w p L order level nodes shown free U F) (hk : Kp A w w') (hA : ∀ k, A k → ¬ L.at p k) : Raw w' p L order level nodes shown free U F where
  mgr := by rw [hk.block p (heap_lt R.mgr) (fun x => hA p x (.inl rfl))]; exact R.mgr
  order := ownsRow_kp R.order hk (fun k e x => hA k x (by simp [Lay.at, e]))
  level := ownsRow_kp R.level hk (fun k e x => hA k x (by simp [Lay.at, e]))
  nodes := ownsRow_kp R.nodes hk (fun k e x => hA k x (by simp [Lay.at, e]))
  shown := ownsRow_kp R.shown hk (fun k e x => hA k x (by simp [Lay.at, e]))
  free := ownsRow_kp R.free hk (fun k e x => hA k x (by simp [Lay.at, e]))
  uniq := R.uniq.kp hk (fun x => hA _ x (by simp [Lay.at]))
  memo := R.memo.kp hk (fun x => hA _ x (by simp [Lay.at]))
  ne := R.ne

theorem Raw.no {w' : World} (R : Raw w p L order level nodes shown free U F) (hk : Kp No w w') : Raw w' p L order level nodes shown free U F := R.kp hk (fun _ x => x.elim)

/-! the manager's own cells -/
theorem Raw.c0 (R : Raw w p L order level nodes shown free U F) : w.cell? ⟨p, 0, none⟩ = some L.so := by simp [World.cell?, R.mgr]
theorem Raw.c1 (R : Raw w p L order level nodes shown free U F) : w.cell? ⟨p, 1, none⟩ = some L.sl := by simp [World.cell?, R.mgr]
theorem Raw.c2 (R : Raw w p L order level nodes shown free U F) : w.cell? ⟨p, 2, none⟩ = some L.sn := by simp [World.cell?, R.mgr]
theorem Raw.c3 (R : Raw w p L order level nodes shown free U F) : w.cell? ⟨p, 3, none⟩ = some L.ss := by simp [World.cell?, R.mgr]
theorem Raw.c4 (R : Raw w p L order level nodes shown free U F) : w.cell? ⟨p, 4, none⟩ = some L.sf := by simp [World.cell?, R.mgr]
theorem Raw.c5 (R : Raw w p L order level nodes shown free U F) : w.cell? ⟨p, 5, none⟩ = some (.map (some L.bu)) := by simp [World.cell?, R.mgr]
theorem Raw.c6 (R : Raw w p L order level nodes shown free U F) : w.cell? ⟨p, 6, none⟩ = some (.map (some L.bm)) := by simp [World.cell?, R.mgr]
theorem Raw.fz (R : Raw w p L order level nodes shown free U F) (i : Nat) : w.frozen? ⟨p, i, none⟩ = false := by simp [World.frozen?, R.mgr]
theorem Raw.plt (R : Raw w p L order level nodes shown free U F) : p < w.heap.size := heap_lt R.mgr

/-- Blocks that hold rows of different types, or maps, are different. -/
theorem row_ne {w : World} {e1 e2 s1 s2 n1 n2 : Nat} {v1 v2 : Value} {x1 x2 : List Value} (h1 : w.ownsRow 0 e1 s1 v1 n1 x1) (h2 : w.ownsRow 0 e2 s2 v2 n2 x2) (he : e1 ≠ e2) {k : Nat} (hk : v1.ownBlock = some k) : v2.ownBlock ≠ some k := by
  intro hk2
  obtain ⟨c1, g1⟩ := ownsRow_block h1 hk
  obtain ⟨c2, g2⟩ := ownsRow_block h2 hk2
  rw [g1] at g2
  cases g2
  exact he rfl
theorem row_map {K V : Type} [DecidableEq K] {w : World} {e1 s1 n1 b : Nat} {v1 : Value} {x1 : List Value} {enc : K → Value} {ev : V → Value} {f : K → Option V} (h1 : w.ownsRow 0 e1 s1 v1 n1 x1) (h2 : MapAs w b enc ev f) : v1.ownBlock ≠ some b := by
  intro hk
  obtain ⟨c1, g1⟩ := ownsRow_block h1 hk
  obtain ⟨es, cl, g2, _⟩ := h2
  rw [g1] at g2
  cases g2
theorem Raw.map_ne {K V : Type} [DecidableEq K] {b : Nat} {enc : K → Value} {ev : V → Value} {f : K → Option V} (R : Raw w p L order level nodes shown free U F) (h2 : MapAs w b enc ev f) : b ≠ p := by
  intro e
  obtain ⟨es, cl, g2, _⟩ := h2
  rw [e, R.mgr] at g2
  cases g2
theorem Raw.row_mgr {e1 s1 n1 : Nat} {v1 : Value} {x1 : List Value} (R : Raw w p L order level nodes shown free U F) (h1 : w.ownsRow 0 e1 s1 v1 n1 x1) (he : e1 ≠ 105) : v1.ownBlock ≠ some p := by
  intro hk
  obtain ⟨c1, g1⟩ := ownsRow_block h1 hk
  rw [R.mgr] at g1
  cases g1
  exact he rfl

theorem setCell_heap {w : World} {k i : Nat} {c : Array Value} {t : TypeId} {fr : Nat × Nat} (h : w.heap[k]? = some (.cells c t fr)) (v : Value) :
    (w.setCell ⟨k, i, none⟩ v).heap[k]? = some (.cells (c.setIfInBounds i v) t fr) := by
  simp [World.setCell, Array.getElem?_modify, h]

theorem ownsRow_set {w : World} {e size n : Nat} {v : Value} {xs : List Value} (h : w.ownsRow 0 e size v n xs) {p i : Nat} {u : Value} (hn : v.ownBlock ≠ some p) : (w.setCell ⟨p, i, none⟩ u).ownsRow 0 e size v n xs :=
  ownsRow_kp h (Kp.setCell _ _) (fun k e x => hn (by rw [e]; exact congrArg some x))

/-- The field 'nodes' is set. -/
theorem Raw.setNodes {nodes' : List Nd} {v : Value} (R : Raw w p L order level nodes shown free U F) (h : w.ownsRow 0 107 3 v nodes'.length (nodes'.flatMap ndCells)) :
    Raw (w.setCell ⟨p, 2, none⟩ v) p { L with sn := v } order level nodes' shown free U F where
  mgr := by rw [setCell_heap R.mgr]; rfl
  order := ownsRow_set R.order (R.row_mgr R.order (by decide))
  level := ownsRow_set R.level (R.row_mgr R.level (by decide))
  nodes := ownsRow_set h (R.row_mgr h (by decide))
  shown := ownsRow_set R.shown (R.row_mgr R.shown (by decide))
  free := ownsRow_set R.free (R.row_mgr R.free (by decide))
  uniq := R.uniq.kp (Kp.setCell _ _) (fun x => R.map_ne R.uniq x)
  memo := R.memo.kp (Kp.setCell _ _) (fun x => R.map_ne R.memo x)
  ne := R.ne

/-- The field 'shown' is set. -/
theorem Raw.setShown {shown' : List Bool} {v : Value} (R : Raw w p L order level nodes shown free U F) (h : w.ownsRow 0 4 1 v shown'.length (shown'.map .bool)) :
    Raw (w.setCell ⟨p, 3, none⟩ v) p { L with ss := v } order level nodes shown' free U F where
  mgr := by rw [setCell_heap R.mgr]; rfl
  order := ownsRow_set R.order (R.row_mgr R.order (by decide))
  level := ownsRow_set R.level (R.row_mgr R.level (by decide))
  nodes := ownsRow_set R.nodes (R.row_mgr R.nodes (by decide))
  shown := ownsRow_set h (R.row_mgr h (by decide))
  free := ownsRow_set R.free (R.row_mgr R.free (by decide))
  uniq := R.uniq.kp (Kp.setCell _ _) (fun x => R.map_ne R.uniq x)
  memo := R.memo.kp (Kp.setCell _ _) (fun x => R.map_ne R.memo x)
  ne := R.ne

/-- The field 'free' is set. -/
theorem Raw.setFree {free' : List Nat} {v : Value} (R : Raw w p L order level nodes shown free U F) (h : w.ownsRow 0 43 1 v free'.length (free'.map natV)) :
    Raw (w.setCell ⟨p, 4, none⟩ v) p { L with sf := v } order level nodes shown free' U F where
  mgr := by rw [setCell_heap R.mgr]; rfl
  order := ownsRow_set R.order (R.row_mgr R.order (by decide))
  level := ownsRow_set R.level (R.row_mgr R.level (by decide))
  nodes := ownsRow_set R.nodes (R.row_mgr R.nodes (by decide))
  shown := ownsRow_set R.shown (R.row_mgr R.shown (by decide))
  free := ownsRow_set h (R.row_mgr h (by decide))
  uniq := R.uniq.kp (Kp.setCell _ _) (fun x => R.map_ne R.uniq x)
  memo := R.memo.kp (Kp.setCell _ _) (fun x => R.map_ne R.memo x)
  ne := R.ne

/-- The field 'memo' is set to another map. -/
theorem Raw.setMemo {b : Nat} {F' : Trip → Option Nat} (R : Raw w p L order level nodes shown free U F) (h : MapAs w b tripV natV F') (hb : L.bu ≠ b) :
    Raw (w.setCell ⟨p, 6, none⟩ (.map (some b))) p { L with bm := b } order level nodes shown free U F' where
  mgr := by rw [setCell_heap R.mgr]; rfl
  order := ownsRow_set R.order (R.row_mgr R.order (by decide))
  level := ownsRow_set R.level (R.row_mgr R.level (by decide))
  nodes := ownsRow_set R.nodes (R.row_mgr R.nodes (by decide))
  shown := ownsRow_set R.shown (R.row_mgr R.shown (by decide))
  free := ownsRow_set R.free (R.row_mgr R.free (by decide))
  uniq := R.uniq.kp (Kp.setCell _ _) (fun x => R.map_ne R.uniq x)
  memo := h.kp (Kp.setCell _ _) (fun x => R.map_ne h x)
  ne := hb

/-- A map of the manager's is updated. -/
theorem Raw.setUniq {w' : World} {U' : Trip → Option Nat} (R : Raw w p L order level nodes shown free U F) (h : MapAs w' L.bu tripV natV U') (hk : Kp (fun x => x = L.bu) w w') :
    Raw w' p L order level nodes shown free U' F where
  mgr := by rw [hk.block p R.plt (fun x => R.map_ne R.uniq x.symm)]; exact R.mgr
  order := ownsRow_kp R.order hk (fun k e x => row_map R.order R.uniq (by rw [e, x]))
  level := ownsRow_kp R.level hk (fun k e x => row_map R.level R.uniq (by rw [e, x]))
  nodes := ownsRow_kp R.nodes hk (fun k e x => row_map R.nodes R.uniq (by rw [e, x]))
  shown := ownsRow_kp R.shown hk (fun k e x => row_map R.shown R.uniq (by rw [e, x]))
  free := ownsRow_kp R.free hk (fun k e x => row_map R.free R.uniq (by rw [e, x]))
  uniq := h
  memo := R.memo.kp hk (fun x => R.ne x.symm)
  ne := R.ne

theorem Raw.updMemo {w' : World} {F' : Trip → Option Nat} (R : Raw w p L order level nodes shown free U F) (h : MapAs w' L.bm tripV natV F') (hk : Kp (fun x => x = L.bm) w w') :
    Raw w' p L order level nodes shown free U F' where
  mgr := by rw [hk.block p R.plt (fun x => R.map_ne R.memo x.symm)]; exact R.mgr
  order := ownsRow_kp R.order hk (fun k e x => row_map R.order R.memo (by rw [e, x]))
  level := ownsRow_kp R.level hk (fun k e x => row_map R.level R.memo (by rw [e, x]))
  nodes := ownsRow_kp R.nodes hk (fun k e x => row_map R.nodes R.memo (by rw [e, x]))
  shown := ownsRow_kp R.shown hk (fun k e x => row_map R.shown R.memo (by rw [e, x]))
  free := ownsRow_kp R.free hk (fun k e x => row_map R.free R.memo (by rw [e, x]))
  uniq := R.uniq.kp hk (fun x => R.ne x)
  memo := h
  ne := R.ne

/-- Behind an append (or a store) to the row of 'nodes', the field not yet set. -/
theorem Raw.kpNodes {w' : World} (R : Raw w p L order level nodes shown free U F) (hk : Kp (fun k => L.sn.ownBlock = some k) w w') (nodes' : List Nd)
    (hn : w'.ownsRow 0 107 3 L.sn nodes'.length (nodes'.flatMap ndCells)) : Raw w' p L order level nodes' shown free U F where
  mgr := by rw [hk.block p R.plt (R.row_mgr R.nodes (by decide))]; exact R.mgr
  order := ownsRow_kp R.order hk (fun k e x => row_ne R.order R.nodes (by decide) e x)
  level := ownsRow_kp R.level hk (fun k e x => row_ne R.level R.nodes (by decide) e x)
  nodes := hn
  shown := ownsRow_kp R.shown hk (fun k e x => row_ne R.shown R.nodes (by decide) e x)
  free := ownsRow_kp R.free hk (fun k e x => row_ne R.free R.nodes (by decide) e x)
  uniq := R.uniq.kp hk (row_map R.nodes R.uniq)
  memo := R.memo.kp hk (row_map R.nodes R.memo)
  ne := R.ne

theorem Raw.kpShown {w' : World} (R : Raw w p L order level nodes shown free U F) (hk : Kp (fun k => L.ss.ownBlock = some k) w w') (shown' : List Bool)
    (hn : w'.ownsRow 0 4 1 L.ss shown'.length (shown'.map .bool)) : Raw w' p L order level nodes shown' free U F where
  mgr := by rw [hk.block p R.plt (R.row_mgr R.shown (by decide))]; exact R.mgr
  order := ownsRow_kp R.order hk (fun k e x => row_ne R.order R.shown (by decide) e x)
  level := ownsRow_kp R.level hk (fun k e x => row_ne R.level R.shown (by decide) e x)
  nodes := ownsRow_kp R.nodes hk (fun k e x => row_ne R.nodes R.shown (by decide) e x)
  shown := hn
  free := ownsRow_kp R.free hk (fun k e x => row_ne R.free R.shown (by decide) e x)
  uniq := R.uniq.kp hk (row_map R.shown R.uniq)
  memo := R.memo.kp hk (row_map R.shown R.memo)
  ne := R.ne

/-- The same with the field set behind the append. -/
theorem Raw.pushNodes {w' : World} {v : Value} (R : Raw w p L order level nodes shown free U F) (hk : Kp (fun k => L.sn.ownBlock = some k) w w') (nodes' : List Nd)
    (hn : w'.ownsRow 0 107 3 v nodes'.length (nodes'.flatMap ndCells)) : Raw (w'.setCell ⟨p, 2, none⟩ v) p { L with sn := v } order level nodes' shown free U F := by
  have mg : w'.heap[p]? = _ := (hk.block p R.plt (R.row_mgr R.nodes (by decide))).trans R.mgr
  have np : v.ownBlock ≠ some p := fun e => by
    obtain ⟨c1, g1⟩ := ownsRow_block hn e
    rw [mg] at g1
    cases g1
  have row : ∀ {e s n u x}, e ≠ 107 → e ≠ 105 → w.ownsRow 0 e s u n x → (w'.setCell ⟨p, 2, none⟩ v).ownsRow 0 e s u n x := fun h1 h2 h =>
    ownsRow_set (ownsRow_kp h hk (fun k e x => row_ne h R.nodes h1 e x)) (R.row_mgr h h2)
  exact {
    mgr := by rw [setCell_heap mg]; rfl
    order := row (by decide) (by decide) R.order
    level := row (by decide) (by decide) R.level
    nodes := ownsRow_set hn np
    shown := row (by decide) (by decide) R.shown
    free := row (by decide) (by decide) R.free
    uniq := (R.uniq.kp hk (row_map R.nodes R.uniq)).kp (Kp.setCell _ _) (fun x => R.map_ne R.uniq x)
    memo := (R.memo.kp hk (row_map R.nodes R.memo)).kp (Kp.setCell _ _) (fun x => R.map_ne R.memo x)
    ne := R.ne }

theorem Raw.pushShown {w' : World} {v : Value} (R : Raw w p L order level nodes shown free U F) (hk : Kp (fun k => L.ss.ownBlock = some k) w w') (shown' : List Bool)
    (hn : w'.ownsRow 0 4 1 v shown'.length (shown'.map .bool)) : Raw (w'.setCell ⟨p, 3, none⟩ v) p { L with ss := v } order level nodes shown' free U F := by
  have mg : w'.heap[p]? = _ := (hk.block p R.plt (R.row_mgr R.shown (by decide))).trans R.mgr
  have np : v.ownBlock ≠ some p := fun e => by
    obtain ⟨c1, g1⟩ := ownsRow_block hn e
    rw [mg] at g1
    cases g1
  have row : ∀ {e s n u x}, e ≠ 4 → e ≠ 105 → w.ownsRow 0 e s u n x → (w'.setCell ⟨p, 3, none⟩ v).ownsRow 0 e s u n x := fun h1 h2 h =>
    ownsRow_set (ownsRow_kp h hk (fun k e x => row_ne h R.shown h1 e x)) (R.row_mgr h h2)
  exact {
    mgr := by rw [setCell_heap mg]; rfl
    order := row (by decide) (by decide) R.order
    level := row (by decide) (by decide) R.level
    nodes := row (by decide) (by decide) R.nodes
    shown := ownsRow_set hn np
    free := row (by decide) (by decide) R.free
    uniq := (R.uniq.kp hk (row_map R.shown R.uniq)).kp (Kp.setCell _ _) (fun x => R.map_ne R.uniq x)
    memo := (R.memo.kp hk (row_map R.shown R.memo)).kp (Kp.setCell _ _) (fun x => R.map_ne R.memo x)
    ne := R.ne }

end

/-! ### the cells of a list of nodes -/
theorem ndCells_get (l : List Nd) (f j : Nat) (x : Nd) (h : l[f]? = some x) (hj : j < 3) : (l.flatMap ndCells)[f * 3 + j]? = (ndCells x)[j]? := by
  induction l generalizing f with
  | nil => simp at h
  | cons y l ih =>
    cases f with
    | zero =>
      simp at h; subst h
      rw [List.flatMap_cons, List.getElem?_append_left (by simp [ndCells]; omega)]
      simp
    | succ f =>
      simp at h
      rw [List.flatMap_cons, List.getElem?_append_right (by simp [ndCells]; omega)]
      have : (f + 1) * 3 + j - (ndCells y).length = f * 3 + j := by simp [ndCells]; omega
      rw [this]
      exact ih f h

theorem flat_length (l : List Nd) : (l.flatMap ndCells).length = l.length * 3 := by
  induction l with
  | nil => rfl
  | cons y l ih => rw [List.flatMap_cons, List.length_append, ih]; simp [ndCells]; omega

theorem nd_get {M : Mgr} {f : Nat} (h : f < M.nodes.length) : M.nodes[f]? = some (M.nd f) := by
  simp [Mgr.nd, h]

/-- What a call leaves behind that changes the manager at p alone. -/
def Ret (p : Nat) (L : Lay) (w : World) (M' : Mgr) (v : Value) (e : Ending) (w' : World) : Prop :=
  ∃ L', e = .returned v ∧ Rep w' p M' L' ∧ Kp (L.at p) w w' ∧ Fresh (L.at p) (L'.at p) w

end Go.Proofs.YtgglkldoclejaaaDoor
