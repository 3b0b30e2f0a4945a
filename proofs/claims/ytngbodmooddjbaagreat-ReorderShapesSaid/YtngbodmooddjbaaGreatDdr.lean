/-
  Walks: 'drop' of the diagram of reorder.
-/
import Derived.Test.YtngbodmooddjbaaGreatDi
import Derived.Outline
namespace Go.Proofs.YtngbodmooddjbaaGreat
open Go.RowKit

/-! ### rows of four cells -/
section
variable {α : Type}
theorem flat4_len (f : Nat → List α) (h4 : ∀ i, (f i).length = 4) : ∀ n, ((List.range n).flatMap f).length = n * 4
  | 0 => rfl
  | n + 1 => by
    rw [List.range_succ, List.flatMap_append, List.length_append, flat4_len f h4 n]
    simp [h4]
    omega
theorem flat4_get (f : Nat → List α) (h4 : ∀ i, (f i).length = 4) : ∀ (n i j : Nat), i < n → j < 4 → ((List.range n).flatMap f)[i * 4 + j]? = (f i)[j]?
  | 0, _, _, h, _ => by omega
  | n + 1, i, j, hi, hj => by
    rw [List.range_succ, List.flatMap_append]
    by_cases h : i < n
    · rw [List.getElem?_append_left (by rw [flat4_len f h4]; omega)]
      exact flat4_get f h4 n i j h hj
    · obtain rfl : i = n := by omega
      rw [List.getElem?_append_right (by rw [flat4_len f h4]; omega), flat4_len f h4]
      simp
theorem flat4_ext (g : Nat → List α) (h4 : ∀ i, (g i).length = 4) {n : Nat} {xs : List α} (hl : xs.length = n * 4) (h : ∀ i j, i < n → j < 4 → xs[i * 4 + j]? = (g i)[j]?) : xs = (List.range n).flatMap g := by
  apply List.ext_getElem?
  intro m
  by_cases hm : m < n * 4
  · have e : m = m / 4 * 4 + m % 4 := by omega
    rw [e, h _ _ (by omega) (by omega), flat4_get g h4 n _ _ (by omega) (by omega)]
  · rw [List.getElem?_eq_none (by omega), List.getElem?_eq_none (by rw [flat4_len g h4]; omega)]
theorem flat4_set (f : Nat → List α) (h4 : ∀ i, (f i).length = 4) {n i j : Nat} (hi : i < n) (hj : j < 4) (v : α) :
    ((List.range n).flatMap f).set (i * 4 + j) v = (List.range n).flatMap (putN f i ((f i).set j v)) := by
  refine flat4_ext _ (fun k => ?_) (by rw [List.length_set, flat4_len f h4]) (fun a b ha hb => ?_)
  · by_cases e : k = i
    · subst e; rw [putN_same, List.length_set, h4]
    · rw [putN_other _ _ e, h4]
  · rw [List.getElem?_set]
    by_cases e : a = i
    · subst e
      rw [putN_same, List.getElem?_set]
      by_cases e2 : j = b
      · subst e2
        rw [if_pos rfl, if_pos rfl, if_pos (by rw [flat4_len f h4]; omega), if_pos (by rw [h4]; exact hj)]
      · rw [if_neg (by omega), if_neg e2, flat4_get f h4 n a b ha hb]
    · rw [putN_other _ _ e, if_neg (by omega), flat4_get f h4 n a b ha hb]
end

def celV (x : Nd) (r : Int) : List Value := [.int .i64 x.1, .int .i64 (x.2.1 : Int), .int .i64 (x.2.2 : Int), .int .i64 r]
def Dg.cells (D : Dg) : List Value := (List.range D.len).flatMap fun i => celV (D.nd i) (D.rf i)
theorem Dg.cells_len (D : Dg) : D.cells.length = D.len * 4 := flat4_len _ (fun _ => rfl) _
theorem Dg.cells_get (D : Dg) {i j : Nat} (hi : i < D.len) (hj : j < 4) : D.cells[i * 4 + j]? = (celV (D.nd i) (D.rf i))[j]? := flat4_get _ (fun _ => rfl) _ _ _ hi hj
theorem flat_fun {f g : Nat → List Value} {n : Nat} (h : ∀ i, i < n → f i = g i) : (List.range n).flatMap f = (List.range n).flatMap g :=
  congrArg List.flatten (List.map_congr_left (fun i hi => h i (List.mem_range.1 hi)))

structure DLay where
  so : Value
  sc : Value
  st : Value
  ss : Value
  tb : List Nat
def DLay.at (L : DLay) (d k : Nat) : Prop := k = d ∨ L.so.ownBlock = some k ∨ L.sc.ownBlock = some k ∨ L.st.ownBlock = some k ∨ L.ss.ownBlock = some k ∨ k ∈ L.tb
/-- Block d is the diagram D. -/
structure DRep (w : World) (d : Nat) (D : Dg) (L : DLay) : Prop where
  blk : w.heap[d]? = some (.cells #[L.so, L.sc, L.st, L.ss, .int .i64 (D.total : Int)] 114 (0, 0))
  order : w.ownsRow 0 3 1 L.so D.order.length (D.order.map natV)
  cells : w.ownsRow 0 131 4 L.sc D.len D.cells
  table : w.ownsRow 0 115 1 L.st D.order.length (L.tb.map fun b => Value.map (some b))
  spare : w.ownsRow 0 3 1 L.ss D.spare.length (D.spare.map natV)
  tl : L.tb.length = D.order.length
  tn : L.tb.Nodup
  maps : ∀ v, v < D.order.length → ∃ l, MapL w (L.tb.getD v 0) pairV natV l ∧ ∀ p, lk l p = D.tab v p
  ne : ∀ k, L.so.ownBlock = some k → L.ss.ownBlock ≠ some k
section
variable {w w' : World} {d : Nat} {D D' : Dg} {L : DLay}
theorem DRep.tb_at (R : DRep w d D L) {b : Nat} (h : b ∈ L.tb) : ∃ v, v < D.order.length ∧ L.tb.getD v 0 = b := by
  obtain ⟨v, hv, e⟩ := List.getElem_of_mem h
  refine ⟨v, by rw [← R.tl]; exact hv, ?_⟩
  rw [List.getD_eq_getElem?_getD, List.getElem?_eq_getElem hv, e]; rfl
theorem DRep.tb_map (R : DRep w d D L) {b : Nat} (h : b ∈ L.tb) : ∃ es c, w.heap[b]? = some (.map es c) := by
  obtain ⟨v, hv, rfl⟩ := R.tb_at h
  obtain ⟨l, ⟨Z, c, hb, _⟩, _⟩ := R.maps v hv
  exact ⟨_, c, hb⟩
theorem DRep.tb_mem (R : DRep w d D L) {v : Nat} (h : v < D.order.length) : L.tb.getD v 0 ∈ L.tb := by
  have h' : v < L.tb.length := by rw [R.tl]; exact h
  rw [List.getD_eq_getElem?_getD, List.getElem?_eq_getElem h']
  exact List.getElem_mem h'
theorem DRep.tb_inj (R : DRep w d D L) {u v : Nat} (hu : u < D.order.length) (hv : v < D.order.length) (e : L.tb.getD u 0 = L.tb.getD v 0) : u = v := by
  have hu' : u < L.tb.length := by rw [R.tl]; exact hu
  have hv' : v < L.tb.length := by rw [R.tl]; exact hv
  rw [List.getD_eq_getElem?_getD, List.getD_eq_getElem?_getD, List.getElem?_eq_getElem hu', List.getElem?_eq_getElem hv'] at e
  exact nodup_same R.tn (List.getElem?_eq_getElem hu') (by rw [List.getElem?_eq_getElem hv']; exact congrArg some e.symm)
theorem rows_ne {w : World} {e1 e2 s1 s2 n1 n2 : Nat} {v1 v2 : Value} {x1 x2 : List Value} (h1 : w.ownsRow 0 e1 s1 v1 n1 x1) (h2 : w.ownsRow 0 e2 s2 v2 n2 x2) (he : e1 ≠ e2) : ∀ k, v1.ownBlock = some k → v2.ownBlock ≠ some k := fun _ hk => row_ne h1 h2 he hk
theorem DRep.row_d (R : DRep w d D L) {e s n : Nat} {v : Value} {x : List Value} (h : w.ownsRow 0 e s v n x) (he : e ≠ 114) : v.ownBlock ≠ some d := fun hk => by
  obtain ⟨cur, hb⟩ := ownsRow_block h hk
  rw [R.blk] at hb
  cases hb
  exact he rfl
theorem DRep.row_tb (R : DRep w d D L) {e s n b : Nat} {v : Value} {x : List Value} (h : w.ownsRow 0 e s v n x) (hb : b ∈ L.tb) : v.ownBlock ≠ some b := fun hk => by
  obtain ⟨cur, h1⟩ := ownsRow_block h hk
  obtain ⟨es, c, h2⟩ := R.tb_map hb
  rw [h1] at h2
  cases h2
theorem DRep.d_tb (R : DRep w d D L) (hb : d ∈ L.tb) : False := by
  obtain ⟨es, c, h2⟩ := R.tb_map hb
  rw [R.blk] at h2
  cases h2
theorem DRep.lt (R : DRep w d D L) : ∀ k, L.at d k → k < w.heap.size := by
  rintro k (rfl | h | h | h | h | h)
  · exact heap_lt R.blk
  · exact (R.order.lt k h).2
  · exact (R.cells.lt k h).2
  · exact (R.table.lt k h).2
  · exact (R.spare.lt k h).2
  · obtain ⟨es, c, h2⟩ := R.tb_map h
    exact heap_lt h2
theorem DRep.kp {A : Nat → Prop} (R : DRep w d D L) (hk : Kp A w w') (hA : ∀ k, A k → ¬ L.at d k) : DRep w' d D L where
  blk := by rw [hk.block d (heap_lt R.blk) (fun h => hA d h (.inl rfl))]; exact R.blk
  order := ownsRow_kp R.order hk (fun k e h => hA k h (.inr (.inl e)))
  cells := ownsRow_kp R.cells hk (fun k e h => hA k h (.inr (.inr (.inl e))))
  table := ownsRow_kp R.table hk (fun k e h => hA k h (.inr (.inr (.inr (.inl e)))))
  spare := ownsRow_kp R.spare hk (fun k e h => hA k h (.inr (.inr (.inr (.inr (.inl e))))))
  tl := R.tl
  tn := R.tn
  maps := fun v hv => by
    obtain ⟨l, h1, h2⟩ := R.maps v hv
    exact ⟨l, h1.kp hk (fun h => hA _ h (.inr (.inr (.inr (.inr (.inr (R.tb_mem hv))))))), h2⟩
  ne := R.ne
theorem DRep.no (R : DRep w d D L) (hk : Kp No w w') : DRep w' d D L := R.kp hk (fun _ h => h.elim)
theorem DRep.c0 (R : DRep w d D L) : w.cell? ⟨d, 0, none⟩ = some L.so := by simp [World.cell?, R.blk]
theorem DRep.c1 (R : DRep w d D L) : w.cell? ⟨d, 1, none⟩ = some L.sc := by simp [World.cell?, R.blk]
theorem DRep.c2 (R : DRep w d D L) : w.cell? ⟨d, 2, none⟩ = some L.st := by simp [World.cell?, R.blk]
theorem DRep.c3 (R : DRep w d D L) : w.cell? ⟨d, 3, none⟩ = some L.ss := by simp [World.cell?, R.blk]
theorem DRep.c4 (R : DRep w d D L) : w.cell? ⟨d, 4, none⟩ = some (.int .i64 (D.total : Int)) := by simp [World.cell?, R.blk]
theorem DRep.fz (R : DRep w d D L) (i : Nat) : w.frozen? ⟨d, i, none⟩ = false := by simp [World.frozen?, R.blk]

/-- Cells are written in place. -/
theorem DRep.setC (R : DRep w d D L) (hk : Kp (fun k => L.sc.ownBlock = some k) w w') (hn : w'.ownsRow 0 131 4 L.sc D'.len D'.cells) (e1 : D'.order = D.order) (e2 : D'.tab = D.tab) (e3 : D'.spare = D.spare) (e4 : D'.total = D.total) : DRep w' d D' L where
  blk := by rw [hk.block d (heap_lt R.blk) (R.row_d R.cells (by decide)), e4]; exact R.blk
  order := by rw [e1]; exact ownsRow_kp R.order hk (rows_ne R.order R.cells (by decide))
  cells := hn
  table := by rw [e1]; exact ownsRow_kp R.table hk (rows_ne R.table R.cells (by decide))
  spare := by rw [e3]; exact ownsRow_kp R.spare hk (rows_ne R.spare R.cells (by decide))
  tl := by rw [e1]; exact R.tl
  tn := R.tn
  maps := fun v hv => by
    rw [e1] at hv
    obtain ⟨l, h1, h2⟩ := R.maps v hv
    exact ⟨l, h1.kp hk (R.row_tb R.cells (R.tb_mem hv)), by rw [e2]; exact h2⟩
  ne := R.ne
/-- The order is written in place. -/
theorem DRep.setO (R : DRep w d D L) (hk : Kp (fun k => L.so.ownBlock = some k) w w') (hn : w'.ownsRow 0 3 1 L.so D'.order.length (D'.order.map natV)) (e1 : D'.order.length = D.order.length) (e0 : D'.len = D.len) (e5 : D'.nd = D.nd) (e6 : D'.rf = D.rf) (e2 : D'.tab = D.tab) (e3 : D'.spare = D.spare) (e4 : D'.total = D.total) : DRep w' d D' L where
  blk := by rw [hk.block d (heap_lt R.blk) (R.row_d R.order (by decide)), e4]; exact R.blk
  order := hn
  cells := by
    have : D'.cells = D.cells := by unfold Dg.cells; rw [e0, e5, e6]
    rw [e0, this]
    exact ownsRow_kp R.cells hk (rows_ne R.cells R.order (by decide))
  table := by rw [e1]; exact ownsRow_kp R.table hk (rows_ne R.table R.order (by decide))
  spare := by rw [e3]; exact ownsRow_kp R.spare hk (fun k e h => R.ne k h e)
  tl := by rw [e1]; exact R.tl
  tn := R.tn
  maps := fun v hv => by
    rw [e1] at hv
    obtain ⟨l, h1, h2⟩ := R.maps v hv
    exact ⟨l, h1.kp hk (R.row_tb R.order (R.tb_mem hv)), by rw [e2]; exact h2⟩
  ne := R.ne
theorem DRep.putS {v : Value} (R : DRep w d D L) (hn : w.ownsRow 0 3 1 v D'.spare.length (D'.spare.map natV)) (ne : ∀ k, L.so.ownBlock = some k → v.ownBlock ≠ some k) (e1 : D'.order = D.order) (e0 : D'.len = D.len) (e5 : D'.nd = D.nd) (e6 : D'.rf = D.rf) (e2 : D'.tab = D.tab) (e4 : D'.total = D.total) : DRep (w.setCell ⟨d, 3, none⟩ v) d D' { L with ss := v } where
  blk := by
    rw [setCell_heap R.blk, e4]
    rfl
  order := by rw [e1]; exact ownsRow_set R.order (R.row_d R.order (by decide))
  cells := by
    have : D'.cells = D.cells := by unfold Dg.cells; rw [e0, e5, e6]
    rw [e0, this]
    exact ownsRow_set R.cells (R.row_d R.cells (by decide))
  table := by rw [e1]; exact ownsRow_set R.table (R.row_d R.table (by decide))
  spare := ownsRow_set hn (R.row_d hn (by decide))
  tl := by rw [e1]; exact R.tl
  tn := R.tn
  maps := fun u hu => by
    rw [e1] at hu
    obtain ⟨l, h1, h2⟩ := R.maps u hu
    exact ⟨l, h1.kp (Kp.setCell _ _) (fun h => R.d_tb (by have t := R.tb_mem hu; rw [show L.tb.getD u 0 = d from h] at t; exact t)), by rw [e2]; exact h2⟩
  ne := ne
theorem DRep.putT (R : DRep w d D L) (t : Nat) (e1 : D'.order = D.order) (e0 : D'.len = D.len) (e5 : D'.nd = D.nd) (e6 : D'.rf = D.rf) (e2 : D'.tab = D.tab) (e3 : D'.spare = D.spare) (e4 : D'.total = t) : DRep (w.setCell ⟨d, 4, none⟩ (.int .i64 (t : Int))) d D' L where
  blk := by
    rw [setCell_heap R.blk, e4]
    rfl
  order := by rw [e1]; exact ownsRow_set R.order (R.row_d R.order (by decide))
  cells := by
    have : D'.cells = D.cells := by unfold Dg.cells; rw [e0, e5, e6]
    rw [e0, this]
    exact ownsRow_set R.cells (R.row_d R.cells (by decide))
  table := by rw [e1]; exact ownsRow_set R.table (R.row_d R.table (by decide))
  spare := by rw [e3]; exact ownsRow_set R.spare (R.row_d R.spare (by decide))
  tl := by rw [e1]; exact R.tl
  tn := R.tn
  maps := fun u hu => by
    rw [e1] at hu
    obtain ⟨l, h1, h2⟩ := R.maps u hu
    exact ⟨l, h1.kp (Kp.setCell _ _) (fun h => R.d_tb (by have t := R.tb_mem hu; rw [show L.tb.getD u 0 = d from h] at t; exact t)), by rw [e2]; exact h2⟩
  ne := R.ne
/-- One map is written. -/
theorem DRep.setM {v : Nat} (R : DRep w d D L) (hv : v < D.order.length) (hk : Kp (fun k => k = L.tb.getD v 0) w w') {l : List (Pair × Nat)} (h : MapL w' (L.tb.getD v 0) pairV natV l) (hl : ∀ p, lk l p = D'.tab v p) (ho : ∀ u, u ≠ v → D'.tab u = D.tab u)
    (e1 : D'.order = D.order) (e0 : D'.len = D.len) (e5 : D'.nd = D.nd) (e6 : D'.rf = D.rf) (e3 : D'.spare = D.spare) (e4 : D'.total = D.total) : DRep w' d D' L where
  blk := by rw [hk.block d (heap_lt R.blk) (fun e => R.d_tb (e ▸ R.tb_mem hv)), e4]; exact R.blk
  order := by rw [e1]; exact ownsRow_kp R.order hk (fun k e h => R.row_tb R.order (R.tb_mem hv) (h ▸ e))
  cells := by
    have : D'.cells = D.cells := by unfold Dg.cells; rw [e0, e5, e6]
    rw [e0, this]
    exact ownsRow_kp R.cells hk (fun k e h => R.row_tb R.cells (R.tb_mem hv) (h ▸ e))
  table := by rw [e1]; exact ownsRow_kp R.table hk (fun k e h => R.row_tb R.table (R.tb_mem hv) (h ▸ e))
  spare := by rw [e3]; exact ownsRow_kp R.spare hk (fun k e h => R.row_tb R.spare (R.tb_mem hv) (h ▸ e))
  tl := by rw [e1]; exact R.tl
  tn := R.tn
  maps := fun u hu => by
    rw [e1] at hu
    by_cases e : u = v
    · subst e; exact ⟨l, h, hl⟩
    · obtain ⟨l', h1, h2⟩ := R.maps u hu
      exact ⟨l', h1.kp hk (fun x => e (R.tb_inj hu hv x)), by rw [ho u e]; exact h2⟩
  ne := R.ne
/-- The cells of a cell. -/
theorem DRep.cel (R : DRep w d D L) (h2 : 0 < D.len) : ∃ g cap, L.sc = .slice (some ⟨g, 0, none⟩) D.len cap ∧ D.len ≤ cap ∧ cap ≤ maxLen ∧ (∀ i, i < D.len → w.cell? ⟨g, i * 4, none⟩ = some (.int .i64 (D.nd i).1) ∧ w.cell? ⟨g, i * 4 + 1, none⟩ = some (.int .i64 ((D.nd i).2.1 : Int)) ∧ w.cell? ⟨g, i * 4 + 2, none⟩ = some (.int .i64 ((D.nd i).2.2 : Int)) ∧ w.cell? ⟨g, i * 4 + 3, none⟩ = some (.int .i64 (D.rf i))) ∧ ∀ j, w.frozen? ⟨g, j, none⟩ = false := by
  obtain ⟨g, cap, hv, h1, h3, _, hc, hz⟩ := ownsRow_open R.cells h2
  refine ⟨g, cap, hv, h1, h3, fun i hi => ⟨?_, ?_, ?_, ?_⟩, hz⟩
  · exact hc (i * 4) _ (D.cells_get hi (j := 0) (by omega))
  · exact hc (i * 4 + 1) _ (D.cells_get hi (j := 1) (by omega))
  · exact hc (i * 4 + 2) _ (D.cells_get hi (j := 2) (by omega))
  · exact hc (i * 4 + 3) _ (D.cells_get hi (j := 3) (by omega))
theorem DRep.tab_at (R : DRep w d D L) {v : Nat} (hv : v < D.order.length) : ∃ g cap, L.st = .slice (some ⟨g, 0, none⟩) D.order.length cap ∧ D.order.length ≤ cap ∧ cap ≤ maxLen ∧ w.cell? ⟨g, v, none⟩ = some (.map (some (L.tb.getD v 0))) := by
  obtain ⟨g, cap, hs, h1, h3, _, hc, _⟩ := ownsRow_open R.table (by omega)
  refine ⟨g, cap, hs, h1, h3, hc v _ ?_⟩
  have h' : v < L.tb.length := by rw [R.tl]; exact hv
  rw [List.getElem?_map, List.getElem?_eq_getElem h', List.getD_eq_getElem?_getD, List.getElem?_eq_getElem h']
  rfl
end

/-- What a change of the diagram leaves. -/
def DRet (d : Nat) (L : DLay) (w : World) (D' : Dg) (w' : World) : Prop := ∃ L', DRep w' d D' L' ∧ Kp (L.at d) w w' ∧ Fresh (L.at d) (L'.at d) w
theorem DRet.trans {d : Nat} {L L1 : DLay} {w w1 w2 : World} {D2 : Dg} (k : Kp (L.at d) w w1) (f : Fresh (L.at d) (L1.at d) w) (h : DRet d L1 w1 D2 w2) : DRet d L w D2 w2 := by
  obtain ⟨L', r, k1, f1⟩ := h
  refine ⟨L', r, k.trans f k1, fun x hx => ?_⟩
  rcases f1 x hx with h1 | h1
  · exact f x h1
  · exact .inr (Nat.le_trans k.size h1)

end Go.Proofs.YtngbodmooddjbaaGreat

namespace Go.Proofs.YtngbodmooddjbaaGreat
open Go.RowKit

set_option maxHeartbeats 1000000 in
theorem Split_ok {w : World} {d : Nat} {D : Dg} {L : DLay} (c v : Nat) (R : DRep w d D L) (hc : c < D.len) :
    Calls Tryz.prog 90 #[ptr d, .int .i64 (c : Int), .int .i64 (v : Int)] w fun e w' => e = .returned (.tuple #[.int .i64 (D.sp0 c v : Int), .int .i64 (D.sp1 c v : Int)]) ∧ Kp No w w' := by
  have c1 := R.c1
  have plt := heap_lt R.blk
  obtain ⟨g, cap, hs, h1, h3, hcel, _⟩ := R.cel (by omega)
  obtain ⟨k0, k1, k2, k3⟩ := hcel c hc
  rw [hs] at c1
  have hm := maxLen_val
  have b1 : (c : Int) < D.len := by omega
  have b2 : D.len ≤ 9223372036854775807 := by omega
  have glt := World.block_lt_of_cell? _ _ k0
  unfold Dg.sp0 Dg.sp1
  clear R hs hcel h1 h3 hm hc
  generalize D.len = n at *
  generalize D.rf c = r at *
  generalize D.nd c = x at *
  obtain ⟨x, lo, hi⟩ := x
  simp only at k0 k1 k2 ⊢
  by_cases e : x = (v : Int)
  · rw [if_pos e, if_pos e]
    subst e
    go_enter Tryz.func90, Tryz.ntmps90
    go_wp2
    go_quiet (fail)
    go_wp2
    go_ret2
    exact ⟨rfl, (Kp.alloc _).trans_no (Kp.drewN _)⟩
  · rw [if_neg e, if_neg e]
    have e' : (x == (v : Int)) = false := by simpa using e
    go_enter Tryz.func90, Tryz.ntmps90
    go_wp2
    go_ret2
    exact ⟨rfl, Kp.alloc _⟩

end Go.Proofs.YtngbodmooddjbaaGreat

namespace Go.Proofs.YtngbodmooddjbaaGreat
open Go.RowKit

theorem zeroIntD (w : World) : (zeroValue 3).run Tryz.prog w = .ok (.int .i64 0) w := by kernel_rfl
theorem info_cel : (Tryz.prog.info? 131).map (fun i => (i.zero, i.size, i.bytes)) = some (some (.agg #[.int .i64 0, .int .i64 0, .int .i64 0, .int .i64 0]), 4, 32) := by kernel_rfl
section
variable {w w' y z : World} {d : Nat} {D D' : Dg} {L L' : DLay}
/-- The row of cells is laid anew, or grown. -/
theorem DRep.pushC {v : Value} (R : DRep w d D L) (hk : Kp (fun k => L.sc.ownBlock = some k) w w') (hn : w'.ownsRow 0 131 4 v D'.len D'.cells) (e1 : D'.order = D.order) (e2 : D'.tab = D.tab) (e3 : D'.spare = D.spare) (e4 : D'.total = D.total) : DRep (w'.setCell ⟨d, 1, none⟩ v) d D' { L with sc := v } where
  blk := by
    have hb : w'.heap[d]? = _ := (hk.block d (heap_lt R.blk) (R.row_d R.cells (by decide))).trans R.blk
    rw [setCell_heap hb, e4]
    rfl
  order := by rw [e1]; exact ownsRow_set (ownsRow_kp R.order hk (rows_ne R.order R.cells (by decide))) (R.row_d R.order (by decide))
  cells := ownsRow_set hn (fun hv => by
    obtain ⟨cur, hb⟩ := ownsRow_block hn hv
    rw [hk.block d (heap_lt R.blk) (R.row_d R.cells (by decide)), R.blk] at hb
    cases hb)
  table := by rw [e1]; exact ownsRow_set (ownsRow_kp R.table hk (rows_ne R.table R.cells (by decide))) (R.row_d R.table (by decide))
  spare := by rw [e3]; exact ownsRow_set (ownsRow_kp R.spare hk (rows_ne R.spare R.cells (by decide))) (R.row_d R.spare (by decide))
  tl := by rw [e1]; exact R.tl
  tn := R.tn
  maps := fun u hu => by
    rw [e1] at hu
    obtain ⟨l, h1, h2⟩ := R.maps u hu
    exact ⟨l, (h1.kp hk (R.row_tb R.cells (R.tb_mem hu))).kp (Kp.setCell _ _) (fun h => R.d_tb (by have t := R.tb_mem hu; rw [show L.tb.getD u 0 = d from h] at t; exact t)), by rw [e2]; exact h2⟩
  ne := R.ne
/-- The row of spare places is cut, or grown. -/
theorem DRep.pushS {v : Value} (R : DRep w d D L) (hk : Kp (fun k => L.ss.ownBlock = some k) w w') (hn : w'.ownsRow 0 3 1 v D'.spare.length (D'.spare.map natV)) (ne : ∀ k, L.so.ownBlock = some k → v.ownBlock ≠ some k) (e1 : D'.order = D.order) (e0 : D'.len = D.len) (e5 : D'.nd = D.nd) (e6 : D'.rf = D.rf) (e2 : D'.tab = D.tab) (e4 : D'.total = D.total) : DRep (w'.setCell ⟨d, 3, none⟩ v) d D' { L with ss := v } where
  blk := by
    have hb : w'.heap[d]? = _ := (hk.block d (heap_lt R.blk) (R.row_d R.spare (by decide))).trans R.blk
    rw [setCell_heap hb, e4]
    rfl
  order := by rw [e1]; exact ownsRow_set (ownsRow_kp R.order hk (fun k e h => R.ne k e h)) (R.row_d R.order (by decide))
  cells := by
    have : D'.cells = D.cells := by unfold Dg.cells; rw [e0, e5, e6]
    rw [e0, this]
    exact ownsRow_set (ownsRow_kp R.cells hk (rows_ne R.cells R.spare (by decide))) (R.row_d R.cells (by decide))
  table := by rw [e1]; exact ownsRow_set (ownsRow_kp R.table hk (rows_ne R.table R.spare (by decide))) (R.row_d R.table (by decide))
  spare := ownsRow_set hn (fun hv => by
    obtain ⟨cur, hb⟩ := ownsRow_block hn hv
    rw [hk.block d (heap_lt R.blk) (R.row_d R.spare (by decide)), R.blk] at hb
    cases hb)
  tl := by rw [e1]; exact R.tl
  tn := R.tn
  maps := fun u hu => by
    rw [e1] at hu
    obtain ⟨l, h1, h2⟩ := R.maps u hu
    exact ⟨l, (h1.kp hk (R.row_tb R.spare (R.tb_mem hu))).kp (Kp.setCell _ _) (fun h => R.d_tb (by have t := R.tb_mem hu; rw [show L.tb.getD u 0 = d from h] at t; exact t)), by rw [e2]; exact h2⟩
  ne := ne

theorem DRep.scW (R : DRep w d D L) {g cap : Nat} (hs : L.sc = .slice (some ⟨g, 0, none⟩) D.len cap) (i : Nat) (v : Value) :
    (w.setCell ⟨g, i, none⟩ v).ownsRow 0 131 4 L.sc D.len (D.cells.set i v) := by
  have h := R.cells
  rw [hs] at h
  rw [hs]
  exact ownsRow_store h i v
theorem scKp {L : DLay} {g n cap : Nat} (hs : L.sc = .slice (some ⟨g, 0, none⟩) n cap) (w : World) (i : Nat) (v : Value) : Kp (fun k => L.sc.ownBlock = some k) w (w.setCell ⟨g, i, none⟩ v) :=
  (Kp.setCell _ _).mono (fun k _ e => by rw [hs, e]; rfl)
/-- A count of references is written. -/
theorem DRep.rfset (R : DRep w d D L) {g cap i : Nat} (hs : L.sc = .slice (some ⟨g, 0, none⟩) D.len cap) (hi : i < D.len) (r : Int) :
    DRep (w.setCell ⟨g, i * 4 + 3, none⟩ (.int .i64 r)) d { D with rf := putN D.rf i r } L := by
  refine R.setC (scKp hs w _ _) ?_ rfl rfl rfl rfl
  have h := R.scW hs (i * 4 + 3) (.int .i64 r)
  have e : ({ D with rf := putN D.rf i r } : Dg).cells = D.cells.set (i * 4 + 3) (.int .i64 r) := by
    unfold Dg.cells
    rw [flat4_set _ (fun _ => rfl) hi (by omega)]
    refine flat_fun (fun k _ => ?_)
    by_cases c : k = i
    · subst c
      show celV (D.nd k) (putN D.rf k r k) = _
      rw [putN_same, putN_same]; rfl
    · show celV (D.nd k) (putN D.rf i r k) = _
      rw [putN_other _ _ c, putN_other _ _ c]
  rw [e]
  exact h
/-- A whole cell is written. -/
theorem DRep.ndset (R : DRep w d D L) {g cap i : Nat} (hs : L.sc = .slice (some ⟨g, 0, none⟩) D.len cap) (hi : i < D.len) (x : Nd) (r : Int) :
    DRep ((((w.setCell ⟨g, i * 4, none⟩ (.int .i64 x.1)).setCell ⟨g, i * 4 + 1, none⟩ (.int .i64 (x.2.1 : Int))).setCell ⟨g, i * 4 + 2, none⟩ (.int .i64 (x.2.2 : Int))).setCell ⟨g, i * 4 + 3, none⟩ (.int .i64 r)) d { D with nd := putN D.nd i x, rf := putN D.rf i r } L := by
  have hk : ∀ (y : World) (i : Nat) (v : Value), Kp (fun k => L.sc.ownBlock = some k) y (y.setCell ⟨g, i, none⟩ v) := fun y i v => scKp hs y i v
  have t : ∀ {a b c : World}, Kp (fun k => L.sc.ownBlock = some k) a b → Kp (fun k => L.sc.ownBlock = some k) b c → Kp (fun k => L.sc.ownBlock = some k) a c := fun h1 h2 => h1.trans (A' := fun k => L.sc.ownBlock = some k) (fun _ h => .inl h) h2
  refine R.setC (t (t (t (hk _ _ _) (hk _ _ _)) (hk _ _ _)) (hk _ _ _)) ?_ rfl rfl rfl rfl
  have h := R.cells
  rw [hs] at h
  have h4 := ownsRow_store (ownsRow_store (ownsRow_store (ownsRow_store h (i * 4) (.int .i64 x.1)) (i * 4 + 1) (.int .i64 (x.2.1 : Int))) (i * 4 + 2) (.int .i64 (x.2.2 : Int))) (i * 4 + 3) (.int .i64 r)
  have e : ({ D with nd := putN D.nd i x, rf := putN D.rf i r } : Dg).cells = (((D.cells.set (i * 4) (.int .i64 x.1)).set (i * 4 + 1) (.int .i64 (x.2.1 : Int))).set (i * 4 + 2) (.int .i64 (x.2.2 : Int))).set (i * 4 + 3) (.int .i64 r) := by
    refine (flat4_ext _ (fun _ => rfl) (by rw [List.length_set, List.length_set, List.length_set, List.length_set, D.cells_len]) (fun a b ha hb => ?_)).symm
    rw [List.getElem?_set, List.getElem?_set, List.getElem?_set, List.getElem?_set]
    have hl := D.cells_len
    simp only [List.length_set]
    by_cases c : a = i
    · subst c
      show _ = (celV (putN D.nd a x a) (putN D.rf a r a))[b]?
      rw [putN_same, putN_same]
      have : b = 0 ∨ b = 1 ∨ b = 2 ∨ b = 3 := by omega
      rcases this with rfl | rfl | rfl | rfl
      · rw [if_neg (by omega), if_neg (by omega), if_neg (by omega), if_pos (by omega), if_pos (by omega)]; rfl
      · rw [if_neg (by omega), if_neg (by omega), if_pos rfl, if_pos (by omega)]; rfl
      · rw [if_neg (by omega), if_pos rfl, if_pos (by omega)]; rfl
      · rw [if_pos rfl, if_pos (by omega)]; rfl
    · show _ = (celV (putN D.nd i x a) (putN D.rf i r a))[b]?
      rw [putN_other _ _ c, putN_other _ _ c, if_neg (by omega), if_neg (by omega), if_neg (by omega), if_neg (by omega), D.cells_get ha hb]
  rw [e, hs]
  exact h4

/-- The state in 'use': a box of two numbers beside the diagram. -/
structure StU (w : World) (d : Nat) (L : DLay) (B : Nat) (lo hi : Int) (y : World) (D' : Dg) (L' : DLay) : Prop where
  rep : DRep y d D' L'
  kp : Kp (L.at d) w y
  fr : Fresh (L.at d) (L'.at d) w
  box : y.heap[B]? = some (.cells #[.int .i64 lo, .int .i64 hi] 129 (0, 0))
  nb : ¬ L'.at d B
variable {B : Nat} {lo hi : Int}
theorem StU.no (s : StU w d L B lo hi y D' L') (k : Kp No y z) : StU w d L B lo hi z D' L' := ⟨s.rep.no k, s.kp.trans_no k, s.fr, by rw [k.block B (heap_lt s.box) (fun h => h)]; exact s.box, s.nb⟩
/-- A change inside the diagram's own blocks. -/
theorem StU.step {D2 : Dg} {A : Nat → Prop} (s : StU w d L B lo hi y D' L') (r : DRep z d D2 L') (k : Kp A y z) (hA : ∀ x, A x → L'.at d x) : StU w d L B lo hi z D2 L' :=
  ⟨r, s.kp.trans s.fr (k.mono (fun x _ h => hA x h)), s.fr, by rw [k.block B (heap_lt s.box) (fun h => s.nb (hA _ h))]; exact s.box, s.nb⟩
/-- A change that may bring a new block. -/
theorem StU.stepL {D2 : Dg} {L2 : DLay} {A : Nat → Prop} (s : StU w d L B lo hi y D' L') (r : DRep z d D2 L2) (k : Kp A y z) (hA : ∀ x, A x → L'.at d x) (hf : ∀ x, L2.at d x → L'.at d x ∨ y.heap.size ≤ x) : StU w d L B lo hi z D2 L2 :=
  ⟨r, s.kp.trans s.fr (k.mono (fun x _ h => hA x h)), fun x hx => by
    rcases hf x hx with h | h
    · exact s.fr x h
    · exact .inr (Nat.le_trans s.kp.size h), by rw [k.block B (heap_lt s.box) (fun h => s.nb (hA _ h))]; exact s.box, fun h => by
    rcases hf B h with h | h
    · exact s.nb h
    · have := heap_lt s.box; omega⟩
theorem StU.start (R : DRep w d D L) : StU w d L w.heap.size lo hi (w.alloc (.cells #[.int .i64 lo, .int .i64 hi] 129)) D L :=
  ⟨R.no (Kp.alloc _), (Kp.alloc _).of_no, fun _ h => .inl h, heap_alloc_new _ _, fun h => by have := R.lt _ h; omega⟩
theorem StU.b0 (s : StU w d L B lo hi y D' L') : y.cell? ⟨B, 0, none⟩ = some (.int .i64 lo) := by simp [World.cell?, s.box]
theorem StU.b1 (s : StU w d L B lo hi y D' L') : y.cell? ⟨B, 1, none⟩ = some (.int .i64 hi) := by simp [World.cell?, s.box]
end

/-- A new cell, but for the table and the total. -/
def Dg.newC0 (D : Dg) (x r lo hi l : Nat) (s : List Nat) : Dg := { D with nd := putN D.nd r ((x : Int), lo, hi), rf := putN D.rf r 1, len := l, spare := s }
def Dg.newC (D : Dg) (x r lo hi l : Nat) (s : List Nat) : Dg := { D with nd := putN D.nd r ((x : Int), lo, hi), rf := putN D.rf r 1, len := l, spare := s, tab := updT D.tab x ((lo : Int), (hi : Int)) (some r), total := D.total + 1 }
theorem cells_grow (D : Dg) (x lo hi : Nat) (s : List Nat) : (D.newC0 x D.len lo hi (D.len + 1) s).cells = D.cells ++ celV ((x : Int), lo, hi) 1 := by
  unfold Dg.cells
  show (List.range (D.len + 1)).flatMap (fun i => celV (putN D.nd D.len ((x : Int), lo, hi) i) (putN D.rf D.len 1 i)) = _
  rw [List.range_succ, List.flatMap_append]
  have e : (List.range D.len).flatMap (fun i => celV (putN D.nd D.len ((x : Int), lo, hi) i) (putN D.rf D.len 1 i)) = (List.range D.len).flatMap fun i => celV (D.nd i) (D.rf i) :=
    flat_fun (fun i hi => by rw [putN_other _ _ (by omega), putN_other _ _ (by omega)])
  rw [e]
  simp [putN_same]

end Go.Proofs.YtngbodmooddjbaaGreat

namespace Go.Proofs.YtngbodmooddjbaaGreat
open Go.RowKit

abbrev box2 (a b : Int) : Obj := .cells #[.int .i64 a, .int .i64 b] 129
def UsePost (d : Nat) (L : DLay) (w : World) (r : Nat) (D' : Dg) (e : Ending) (w' : World) : Prop := e = .returned (.int .i64 (r : Int)) ∧ DRet d L w D' w'

set_option maxRecDepth 100000 in
set_option maxHeartbeats 1000000 in
theorem use_same {w : World} {d : Nat} {D : Dg} {L : DLay} (x lo : Nat) (R : DRep w d D L) (hl : lo < D.len) :
    Calls Tryz.prog 91 #[ptr d, .int .i64 (x : Int), .int .i64 (lo : Int), .int .i64 (lo : Int)] w (UsePost d L w lo (D.inc lo)) := by
  have c1 := R.c1
  have plt := heap_lt R.blk
  obtain ⟨g, cap, hs, h1, h3, hcel, hz⟩ := R.cel (by omega)
  obtain ⟨_, _, _, k3⟩ := hcel lo hl
  have z3 := hz (lo * 4 + 3)
  have FIN : Hid (DRet d L w (D.inc lo) (w.setCell ⟨g, lo * 4 + 3, none⟩ (.int .i64 (wrap64 (D.rf lo + 1))))) := Lib.hid
    ⟨L, R.rfset hs hl _, (scKp hs w _ _).mono (fun _ _ e => .inr (.inr (.inl e))), fun _ h => .inl h⟩
  rw [hs] at c1
  have hm := maxLen_val
  have b2 : (lo : Int) < D.len := by omega
  have b3 : D.len ≤ 9223372036854775807 := by omega
  have glt := World.block_lt_of_cell? _ _ k3
  clear R hs hcel h1 h3 hm hl hz
  generalize D.len = n at *
  generalize D.rf lo = r at *
  go_enter Tryz.func91, Tryz.ntmps91
  go_wp2
  go_ret
  exact ⟨rfl, FIN.out⟩

set_option maxRecDepth 100000 in
set_option maxHeartbeats 1000000 in
theorem use_found {w : World} {d : Nat} {D : Dg} {L : DLay} (x lo hi i : Nat) (R : DRep w d D L) (hx : x < D.order.length) (ne : lo ≠ hi) (ht : D.tab x ((lo : Int), (hi : Int)) = some i) (hi' : i < D.len) :
    Calls Tryz.prog 91 #[ptr d, .int .i64 (x : Int), .int .i64 (lo : Int), .int .i64 (hi : Int)] w (UsePost d L w i (D.inc i)) := by
  have hne' : ((lo : Int) == (hi : Int)) = false := by simp; omega
  have c1 := R.c1
  have c2 := R.c2
  have plt := heap_lt R.blk
  obtain ⟨g, cap, hs, h1, h3, hcel, hz⟩ := R.cel (by omega)
  obtain ⟨gt, ct, hst, ht1, ht2, ktb⟩ := R.tab_at hx
  obtain ⟨l0, hM, hl0⟩ := R.maps x hx
  obtain ⟨_, _, _, k3⟩ := hcel i hi'
  have z3 := hz (i * 4 + 3)
  have hl2 : ∀ n, (Instr.lookup 115 (.map (some (L.tb.getD x 0))) (.agg #[.int .i64 (lo : Int), .int .i64 (hi : Int)]) true).run Tryz.prog ((w.alloc (box2 lo hi)).drewN n) = .ok (.tuple #[.int .i64 (i : Int), .bool true]) ((w.alloc (box2 lo hi)).drewN n) := fun n => by
    have := (hM.as.kp (Kp.trans_no (Kp.alloc (box2 lo hi)) (Kp.drewN n)) (fun x => x)).lookup keyKids Tryz.underlying115 zeroIntD ((lo : Int), (hi : Int)) true
    rw [hl0, ht] at this
    exact this
  have FIN : Hid (∀ n, DRet d L w (D.inc i) (((w.alloc (box2 lo hi)).drewN n).setCell ⟨g, i * 4 + 3, none⟩ (.int .i64 (wrap64 (D.rf i + 1))))) := Lib.hid (fun n =>
    ⟨L, (R.no ((Kp.alloc _).trans_no (Kp.drewN n))).rfset hs hi' _, ((Kp.alloc _).trans_no (Kp.drewN n)).no_trans ((scKp hs _ _ _).mono (fun _ _ e => .inr (.inr (.inl e)))), fun _ h => .inl h⟩)
  rw [hs] at c1
  rw [hst] at c2
  have hm := maxLen_val
  have b2 : (i : Int) < D.len := by omega
  have b3 : D.len ≤ 9223372036854775807 := by omega
  have b4 : (x : Int) < D.order.length := by omega
  have b5 : D.order.length ≤ 9223372036854775807 := by omega
  have glt := World.block_lt_of_cell? _ _ k3
  have gtlt := World.block_lt_of_cell? _ _ ktb
  clear R hs hcel h1 h3 hm hi' hz hst ht1 ht2 hM hl0 hx ht
  generalize D.len = n at *
  generalize D.order.length = m at *
  generalize D.rf i = r at *
  generalize L.tb.getD x 0 = bm at *
  go_enter Tryz.func91, Tryz.ntmps91
  go_wp2
  go_quiet (fail)
  go_wp2
  go_ret
  exact ⟨rfl, FIN.out _⟩

/-- What the making of a cell leaves. -/
def MadePost (d : Nat) (L : DLay) (w : World) (D : Dg) (x lo hi r l : Nat) (s : List Nat) (e : Ending) (w' : World) : Prop :=
  e = .returned (.int .i64 (r : Int)) ∧ DRet d L w (((D.inc lo).inc hi).newC x r lo hi l s) w'

theorem cutS {y : World} {d : Nat} {D : Dg} {L : DLay} {s : List Nat} {f bf n cf : Nat} (R : DRep y d D L) (h : D.spare = s ++ [f]) (hs : L.ss = .slice (some ⟨bf, 0, none⟩) n cf) (hn : n = s.length + 1) :
    DRep (y.setCell ⟨d, 3, none⟩ (.slice (some ⟨bf, 0, none⟩) s.length cf)) d { D with spare := s } { L with ss := .slice (some ⟨bf, 0, none⟩) s.length cf } := by
  have o := R.spare
  rw [hs, hn, h] at o
  simp only [List.length_append, List.length_singleton] at o
  have o2 := ownsRow_cut o (n' := s.length) (by omega)
  rw [Nat.mul_one, List.map_append, List.take_left' (by simp)] at o2
  exact R.putS o2 (fun k e h => by have := R.ne k e; rw [hs] at this; exact this h) rfl rfl rfl rfl rfl rfl

theorem updT_same {t : PTab} {v : Nat} {p : Pair} {o : Option Nat} (q : Pair) : updT t v p o v q = if q = p then o else t v q := by
  unfold updT
  by_cases e : q = p
  · rw [if_pos ⟨rfl, e⟩, if_pos e]
  · rw [if_neg (fun h => e h.2), if_neg e]
theorem updT_other {t : PTab} {v u : Nat} {p : Pair} {o : Option Nat} (h : u ≠ v) : updT t v p o u = t u := by
  funext q
  unfold updT
  rw [if_neg (fun e => h e.1)]
/-- The table's entry is put in. -/
theorem StU.tabset {w X : World} {d B : Nat} {L L1 : DLay} {D1 : Dg} {lo hi : Int} (s : StU w d L B lo hi X D1 L1) {x : Nat} (hx : x < D1.order.length) (p : Pair) (ht : D1.tab x p = none) (r : Nat) :
    ∃ w3, (∀ n, (Instr.mapUpdate 115 (.map (some (L1.tb.getD x 0))) (pairV p) (.int .i64 (r : Int))).run Tryz.prog (X.drewN n) = .ok () (w3.drewN n)) ∧ StU w d L B lo hi w3 { D1 with tab := updT D1.tab x p (some r) } L1 := by
  obtain ⟨l, hM, hl⟩ := s.rep.maps x hx
  have hn : lk l p = none := by rw [hl, ht]
  obtain ⟨w3, h1, h2, h3, _⟩ := hM.push keyKids Tryz.underlying115 p r hn
  refine ⟨w3, h1, s.step (s.rep.setM hx h3 h2 (fun q => ?_) (fun u hu => updT_other hu) rfl rfl rfl rfl rfl rfl) h3 (fun k e => .inr (.inr (.inr (.inr (.inr (by rw [e]; exact s.rep.tb_mem hx))))))⟩
  rw [lk_append l p q r hn, hl]
  exact (updT_same q).symm
theorem StU.fin {w y w3 : World} {d B : Nat} {L L1 : DLay} {D1 : Dg} {lo hi : Int} (s : StU w d L B lo hi w3 D1 L1) (k : Kp No w3 y) : DRet d L w { D1 with total := D1.total + 1 } (y.setCell ⟨d, 4, none⟩ (.int .i64 ((D1.total : Int) + 1))) := by
  have h := (s.no k).rep.putT (D' := { D1 with total := D1.total + 1 }) (D1.total + 1) rfl rfl rfl rfl rfl rfl rfl
  rw [show ((D1.total + 1 : Nat) : Int) = (D1.total : Int) + 1 by omega] at h
  exact ⟨L1, h, (s.no k).kp.trans s.fr ((Kp.setCell _ _).mono (fun _ _ e => .inl e)), s.fr⟩

/-- The row of cells has grown by one. -/
theorem StU.grow {w A A' w1 : World} {d B g cap g' cap' x lo hi : Nat} {L L1 : DLay} {D1 : Dg} {a b : Int} (s : StU w d L B a b A D1 L1) (hsc : L1.sc = .slice (some ⟨g, 0, none⟩) D1.len cap) (kA : Kp No A A')
    (hown : w1.ownsRow 0 131 4 (.slice (some ⟨g', 0, none⟩) (D1.len + 1) cap') (D1.len + 1) (D1.cells ++ [.int .i64 (x : Int), .int .i64 (lo : Int), .int .i64 (hi : Int), .int .i64 1]))
    (hgrow : A'.grownBy w1 (Value.slice (some ⟨g, 0, none⟩) D1.len cap).ownBlock) (hat : (Value.slice (some ⟨g, 0, none⟩) D1.len cap).ownBlock = some g' ∨ A.heap.size ≤ g') :
    StU w d L B a b (w1.setCell ⟨d, 1, none⟩ (.slice (some ⟨g', 0, none⟩) (D1.len + 1) cap')) (D1.newC0 x D1.len lo hi (D1.len + 1) D1.spare) { L1 with sc := .slice (some ⟨g', 0, none⟩) (D1.len + 1) cap' } := by
  have kg : Kp (fun k => L1.sc.ownBlock = some k) A w1 := by rw [hsc]; exact grown_no kA hgrow
  have r := s.rep.pushC (D' := D1.newC0 x D1.len lo hi (D1.len + 1) D1.spare) kg (by rw [cells_grow]; exact hown) rfl rfl rfl rfl
  have kk : Kp (fun k => L1.sc.ownBlock = some k ∨ k = d) A (w1.setCell ⟨d, 1, none⟩ (.slice (some ⟨g', 0, none⟩) (D1.len + 1) cap')) :=
    (kg.mono (fun _ _ h => .inl h)).trans (A' := fun k => L1.sc.ownBlock = some k ∨ k = d) (fun _ h => .inl h) ((Kp.setCell _ _).mono (fun _ _ e => .inr e))
  refine s.stepL r kk (fun k h => ?_) (fun k h => ?_)
  · rcases h with h | h
    · exact .inr (.inr (.inl h))
    · exact .inl h
  · rcases h with h | h | h | h | h | h
    · exact .inl (.inl h)
    · exact .inl (.inr (.inl h))
    · have hg : g' = k := by simpa [Value.ownBlock] using h
      rcases hat with hat | hat
      · exact .inl (.inr (.inr (.inl (by rw [hsc, ← hg]; exact hat))))
      · exact .inr (by omega)
    · exact .inl (.inr (.inr (.inr (.inl h))))
    · exact .inl (.inr (.inr (.inr (.inr (.inl h)))))
    · exact .inl (.inr (.inr (.inr (.inr (.inr h)))))

end Go.Proofs.YtngbodmooddjbaaGreat

namespace Go.Proofs.YtngbodmooddjbaaGreat
open Go.RowKit

set_option maxRecDepth 100000 in
set_option maxHeartbeats 4000000 in
theorem use_free {w : World} {d : Nat} {D : Dg} {L : DLay} (x lo hi f : Nat) (s : List Nat) (R : DRep w d D L) (hx : x < D.order.length) (hl : lo < D.len) (hh : hi < D.len) (ne : lo ≠ hi) (ht : D.tab x ((lo : Int), (hi : Int)) = none) (hsp : D.spare = s ++ [f]) (hf : f < D.len) (bt : D.total ≤ 1000000000000) :
    Calls Tryz.prog 91 #[ptr d, .int .i64 (x : Int), .int .i64 (lo : Int), .int .i64 (hi : Int)] w (MadePost d L w D x lo hi f D.len s) := by
  obtain ⟨bf, cf, hss, hf1, hf2, _, hfc, _⟩ := ownsRow_open R.spare (by rw [hsp]; simp)
  have esl : D.spare.length = s.length + 1 := by rw [hsp]; simp
  rw [esl] at hss hf1
  have hne' : ((lo : Int) == (hi : Int)) = false := by simp; omega
  have plt := heap_lt R.blk
  have c2 := R.c2
  obtain ⟨g, cap, hs, h1, h3, _, _⟩ := R.cel (by omega)
  obtain ⟨gt, ct, hst, ht1, ht2, ktb⟩ := R.tab_at hx
  obtain ⟨l0, hM, hl0⟩ := R.maps x hx
  have hl2 : ∀ n, (Instr.lookup 115 (.map (some (L.tb.getD x 0))) (.agg #[.int .i64 (lo : Int), .int .i64 (hi : Int)]) true).run Tryz.prog ((w.alloc (box2 lo hi)).drewN n) = .ok (.tuple #[.int .i64 0, .bool false]) ((w.alloc (box2 lo hi)).drewN n) := fun n => by
    have := (hM.as.kp (Kp.trans_no (Kp.alloc (box2 lo hi)) (Kp.drewN n)) (fun x => x)).lookup keyKids Tryz.underlying115 zeroIntD ((lo : Int), (hi : Int)) true
    rw [hl0, ht] at this
    exact this
  rw [hst] at c2
  have hm := maxLen_val
  have b4 : (x : Int) < D.order.length := by omega
  have b5 : D.order.length ≤ 9223372036854775807 := by omega
  have n1 : (lo : Int) < D.len := by omega
  have n2 : (hi : Int) < D.len := by omega
  have n3 : D.len ≤ 9223372036854775807 := by omega
  have gtlt := World.block_lt_of_cell? _ _ ktb
  have RR := Lib.hid R
  have HS := Lib.hid hs
  have HST := Lib.hid (And.intro hst ktb)
  have HLH := Lib.hid (And.intro hl (And.intro hh ne))
  have HX := Lib.hid (And.intro hx ht)
  generalize hbm : L.tb.getD x 0 = bm at *
  have HBM := Lib.hid hbm
  clear hbm
  have HSS := Lib.hid (And.intro hss (And.intro hsp esl))
  have q1 : (s.length : Int) + 1 ≤ cf := by omega
  have q2 : s.length + 1 ≤ 9223372036854775807 := by omega
  have q3 : (f : Int) < D.len := by omega
  have HF := Lib.hid (And.intro hf bt)
  clear R hs h1 h3 hm hst ht1 ht2 hM hl0 ht hx hl hh ne hss hsp esl hf hf1 hf2 hfc bt
  go_enter Tryz.func91, Tryz.ntmps91
  go_wp2
  go_quiet (fail)
  go_upto_region 9 with fail
  have SA : Hid (StU w d L w.heap.size lo hi ((w.alloc (box2 lo hi)).drewN nq) D L) := Lib.hid ((StU.start RR.out).no (Kp.drewN _))
  clear hl2 c2 ktb gtlt plt
  generalize ((w.alloc (box2 lo hi)).drewN nq) = A at *
  obtain ⟨B, hB⟩ : ∃ B, w.heap.size = B := ⟨_, rfl⟩
  rw [hB]
  rw [hB] at SA
  clear hB
  -- the first reference
  have c1 := SA.out.rep.c1
  obtain ⟨g', cap', hs, h1, h3, hcel, hz⟩ := SA.out.rep.cel (by omega)
  rw [HS.out] at hs
  cases hs
  obtain ⟨_, _, _, k3⟩ := hcel lo HLH.out.1
  have z3 := hz (lo * 4 + 3)
  have plt := heap_lt SA.out.rep.blk
  have glt := World.block_lt_of_cell? _ _ k3
  rw [HS.out] at c1
  have SB : Hid (StU w d L B lo hi (A.setCell ⟨g, lo * 4 + 3, none⟩ (.int .i64 (wrap64 (D.rf lo + 1)))) (D.inc lo) L) := Lib.hid (SA.out.step (SA.out.rep.rfset HS.out HLH.out.1 _) (scKp HS.out _ _ _) (fun _ e => .inr (.inr (.inl e))))
  clear hcel hz h1 h3
  generalize D.rf lo = r at *
  go_upto_region 10 with fail
  clear c1 k3 z3 plt glt SA
  generalize (A.setCell ⟨g, lo * 4 + 3, none⟩ (.int .i64 (wrap64 (r + 1)))) = A1 at *
  -- the second reference
  have c1 := SB.out.rep.c1
  obtain ⟨g', cap', hs, h1, h3, hcel, hz⟩ := SB.out.rep.cel (by show 0 < D.len; omega)
  rw [HS.out] at hs
  cases hs
  obtain ⟨_, _, _, k3⟩ := hcel hi HLH.out.2.1
  have z3 := hz (hi * 4 + 3)
  have eR : (D.inc lo).rf hi = D.rf hi := putN_other _ _ (fun e => HLH.out.2.2 e.symm)
  rw [eR] at k3
  have plt := heap_lt SB.out.rep.blk
  have glt := World.block_lt_of_cell? _ _ k3
  rw [HS.out] at c1
  have SC : Hid (StU w d L B lo hi (A1.setCell ⟨g, hi * 4 + 3, none⟩ (.int .i64 (wrap64 (D.rf hi + 1)))) ((D.inc lo).inc hi) L) := Lib.hid (by
    have h := SB.out.step (SB.out.rep.rfset HS.out HLH.out.2.1 (wrap64 (D.rf hi + 1))) (scKp HS.out _ _ _) (fun _ e => .inr (.inr (.inl e)))
    rw [← eR] at h ⊢
    exact h)
  clear hcel hz h1 h3 eR
  generalize D.rf hi = q at *
  go_upto_region 11 with fail
  clear c1 k3 z3 plt glt SB
  generalize (A1.setCell ⟨g, hi * 4 + 3, none⟩ (.int .i64 (wrap64 (q + 1)))) = A2 at *
  -- the box of the cell; how long the rows are
  have b0 := SC.out.b0
  have b1 := SC.out.b1
  have c1 := SC.out.rep.c1
  have c3 := SC.out.rep.c3
  have plt := heap_lt SC.out.rep.blk
  have blt := World.block_lt_of_cell? _ _ b0
  rw [HS.out] at c1
  rw [HSS.out.1] at c3
  obtain ⟨bf', cf', hv, _, _, _, hfc, _⟩ := ownsRow_open SC.out.rep.spare (by show 0 < D.spare.length; rw [HSS.out.2.2]; omega)
  rw [HSS.out.1] at hv
  obtain rfl : bf = bf' := by
    injection hv with e1
    injection e1 with e2
    injection e2
  clear hv
  have kf := hfc s.length (.int .i64 (f : Int)) (by show (D.spare.map natV)[s.length]? = _; rw [HSS.out.2.1]; simp [natV])
  have flt := World.block_lt_of_cell? _ _ kf
  have z3 := SC.out.rep.fz 3
  clear hfc
  go_upto_region 17 with fail
  have SD : Hid (StU w d L B lo hi ((A2.setCell ⟨d, 3, none⟩ (.slice (some ⟨bf, 0, none⟩) s.length cf)).alloc (.cells #[.int .i64 (x : Int), .int .i64 (lo : Int), .int .i64 (hi : Int), .int .i64 1] 131)) { (D.inc lo).inc hi with spare := s } { L with ss := .slice (some ⟨bf, 0, none⟩) s.length cf }) := Lib.hid
    ((SC.out.stepL (cutS SC.out.rep HSS.out.2.1 HSS.out.1 rfl) (Kp.setCell _ _) (fun _ e => .inl e) (fun k hk => .inl (by
      rcases hk with h | h | h | h | h | h
      · exact .inl h
      · exact .inr (.inl h)
      · exact .inr (.inr (.inl h))
      · exact .inr (.inr (.inr (.inl h)))
      · exact .inr (.inr (.inr (.inr (.inl (by rw [HSS.out.1]; exact h)))))
      · exact .inr (.inr (.inr (.inr (.inr h))))))).no (Kp.alloc _))
  have BX : ((A2.setCell ⟨d, 3, none⟩ (.slice (some ⟨bf, 0, none⟩) s.length cf)).alloc (.cells #[.int .i64 (x : Int), .int .i64 (lo : Int), .int .i64 (hi : Int), .int .i64 1] 131)).heap[A2.heap.size]? = some (.cells #[.int .i64 (x : Int), .int .i64 (lo : Int), .int .i64 (hi : Int), .int .i64 1] 131 (0, 0)) := by
    have e : (A2.setCell ⟨d, 3, none⟩ (.slice (some ⟨bf, 0, none⟩) s.length cf)).heap.size = A2.heap.size := by simp [World.setCell]
    rw [← e]
    exact heap_alloc_new _ _
  have gne : g ≠ A2.heap.size := by
    have := SC.out.rep.lt g (.inr (.inr (.inl (by rw [HS.out]; rfl))))
    omega
  clear b0 b1 c1 c3 plt blt kf flt z3
  generalize ((A2.setCell ⟨d, 3, none⟩ (.slice (some ⟨bf, 0, none⟩) s.length cf)).alloc (.cells #[.int .i64 (x : Int), .int .i64 (lo : Int), .int .i64 (hi : Int), .int .i64 1] 131)) = A3 at *
  generalize A2.heap.size = B2 at *
  clear SC
  -- the cell is written
  have j0 : A3.cell? ⟨B2, 0, none⟩ = some (.int .i64 (x : Int)) := by simp [World.cell?, BX]
  have j1 : A3.cell? ⟨B2, 1, none⟩ = some (.int .i64 (lo : Int)) := by simp [World.cell?, BX]
  have j2 : A3.cell? ⟨B2, 2, none⟩ = some (.int .i64 (hi : Int)) := by simp [World.cell?, BX]
  have j3 : A3.cell? ⟨B2, 3, none⟩ = some (.int .i64 1) := by simp [World.cell?, BX]
  have c1 := SD.out.rep.c1
  obtain ⟨g', cap', hs, _, _, hcel, hz⟩ := SD.out.rep.cel (by show 0 < D.len; omega)
  rw [show ({ L with ss := .slice (some ⟨bf, 0, none⟩) s.length cf } : DLay).sc = L.sc from rfl, HS.out] at hs
  cases hs
  rw [show ({ L with ss := .slice (some ⟨bf, 0, none⟩) s.length cf } : DLay).sc = L.sc from rfl, HS.out] at c1
  obtain ⟨k0, k1, k2, k3⟩ := hcel f HF.out.1
  have y0 := hz (f * 4)
  have y1 := hz (f * 4 + 1)
  have y2 := hz (f * 4 + 2)
  have y3 := hz (f * 4 + 3)
  have glt := World.block_lt_of_cell? _ _ k0
  have SE := SD.out.step (SD.out.rep.ndset HS.out HF.out.1 ((x : Int), lo, hi) 1) (((scKp (L := { L with ss := .slice (some ⟨bf, 0, none⟩) s.length cf }) HS.out A3 (f * 4) (.int .i64 (x : Int))).trans (A' := fun k => L.sc.ownBlock = some k) (fun _ h => .inl h) (scKp HS.out _ (f * 4 + 1) (.int .i64 (lo : Int)))).trans (A' := fun k => L.sc.ownBlock = some k) (fun _ h => .inl h) ((scKp HS.out _ (f * 4 + 2) (.int .i64 (hi : Int))).trans (A' := fun k => L.sc.ownBlock = some k) (fun _ h => .inl h) (scKp HS.out _ (f * 4 + 3) (.int .i64 1)))) (fun _ e => .inr (.inr (.inl e)))
  have HSE := Lib.hid SE
  clear hcel hz SE BX
  generalize (((D.inc lo).inc hi).nd f) = nf at *
  obtain ⟨nf1, nf2, nf3⟩ := nf
  generalize (((D.inc lo).inc hi).rf f) = rff at *
  go_region
  go_wp2
  clear j0 j1 j2 j3 c1 k0 k1 k2 k3 y0 y1 y2 y3 glt SD
  generalize ((((A3.setCell ⟨g, f * 4, none⟩ (.int .i64 (x : Int))).setCell ⟨g, f * 4 + 1, none⟩ (.int .i64 (lo : Int))).setCell ⟨g, f * 4 + 2, none⟩ (.int .i64 (hi : Int))).setCell ⟨g, f * 4 + 3, none⟩ (.int .i64 1)) = X at *
  have SX := HSE.out
  have c2 := SX.rep.c2
  obtain ⟨gt', ct', hst, _, _, ktb⟩ := SX.rep.tab_at HX.out.1
  have eT : L.st = .slice (some ⟨gt, 0, none⟩) D.order.length ct := HST.out.1
  have hst' := hst
  rw [show ({ L with ss := .slice (some ⟨bf, 0, none⟩) s.length cf } : DLay).st = L.st from rfl, eT] at hst' c2
  cases hst'
  rw [show ({ L with ss := .slice (some ⟨bf, 0, none⟩) s.length cf } : DLay).tb = L.tb from rfl, HBM.out] at ktb
  have b0 := SX.b0
  have b1 := SX.b1
  obtain ⟨w3, hupd, SF⟩ := SX.tabset HX.out.1 ((lo : Int), (hi : Int)) HX.out.2 f
  rw [show ({ L with ss := .slice (some ⟨bf, 0, none⟩) s.length cf } : DLay).tb = L.tb from rfl, HBM.out] at hupd
  have up : (Instr.mapUpdate 115 (.map (some bm)) (.agg #[.int .i64 (lo : Int), .int .i64 (hi : Int)]) (.int .i64 (f : Int))).run Tryz.prog X.drew.drew = .ok () w3.drew.drew := hupd 2
  have c4 := SF.rep.c4
  have z4 := SF.rep.fz 4
  have gtlt := World.block_lt_of_cell? _ _ ktb
  have plt := heap_lt SX.rep.blk
  have plt3 := heap_lt SF.rep.blk
  have blt := World.block_lt_of_cell? _ _ b0
  have bt : D.total ≤ 1000000000000 := HF.out.2
  have FIN : Hid (DRet d L w (((D.inc lo).inc hi).newC x f lo hi D.len s) (w3.drew.drew.setCell ⟨d, 4, none⟩ (.int .i64 ((D.total : Int) + 1)))) := Lib.hid (SF.fin (Kp.drewN 2))
  have c4' : w3.cell? ⟨d, 4, none⟩ = some (.int .i64 (D.total : Int)) := c4
  clear hst SF SX hupd HSE c4
  generalize D.total = tt at *
  go_region
  go_wp2
  go_ret
  exact ⟨rfl, FIN.out⟩

end Go.Proofs.YtngbodmooddjbaaGreat

namespace Go.Proofs.YtngbodmooddjbaaGreat
open Go.RowKit

set_option maxRecDepth 100000 in
set_option maxHeartbeats 4000000 in
theorem use_new {w : World} {d : Nat} {D : Dg} {L : DLay} (x lo hi : Nat) (R : DRep w d D L) (hx : x < D.order.length) (hl : lo < D.len) (hh : hi < D.len) (ne : lo ≠ hi) (ht : D.tab x ((lo : Int), (hi : Int)) = none) (hsp : D.spare = []) (hb : D.len ≤ 1000000000000) (bt : D.total ≤ 1000000000000) :
    Calls Tryz.prog 91 #[ptr d, .int .i64 (x : Int), .int .i64 (lo : Int), .int .i64 (hi : Int)] w (MadePost d L w D x lo hi D.len (D.len + 1) []) := by
  obtain ⟨i0, hi0, hz0, hz1, hz2⟩ := info_parts info_cel
  obtain ⟨af, cf, hss, _⟩ := ownsRow_len R.spare
  rw [hsp] at hss
  have hne' : ((lo : Int) == (hi : Int)) = false := by simp; omega
  have plt := heap_lt R.blk
  have c2 := R.c2
  obtain ⟨g, cap, hs, h1, h3, _, _⟩ := R.cel (by omega)
  obtain ⟨gt, ct, hst, ht1, ht2, ktb⟩ := R.tab_at hx
  obtain ⟨l0, hM, hl0⟩ := R.maps x hx
  have hl2 : ∀ n, (Instr.lookup 115 (.map (some (L.tb.getD x 0))) (.agg #[.int .i64 (lo : Int), .int .i64 (hi : Int)]) true).run Tryz.prog ((w.alloc (box2 lo hi)).drewN n) = .ok (.tuple #[.int .i64 0, .bool false]) ((w.alloc (box2 lo hi)).drewN n) := fun n => by
    have := (hM.as.kp (Kp.trans_no (Kp.alloc (box2 lo hi)) (Kp.drewN n)) (fun x => x)).lookup keyKids Tryz.underlying115 zeroIntD ((lo : Int), (hi : Int)) true
    rw [hl0, ht] at this
    exact this
  rw [hst] at c2
  have hm := maxLen_val
  have b4 : (x : Int) < D.order.length := by omega
  have b5 : D.order.length ≤ 9223372036854775807 := by omega
  have n1 : (lo : Int) < D.len := by omega
  have n2 : (hi : Int) < D.len := by omega
  have n3 : D.len ≤ 9223372036854775807 := by omega
  have gtlt := World.block_lt_of_cell? _ _ ktb
  have RR := Lib.hid R
  have HS := Lib.hid hs
  have HST := Lib.hid (And.intro hst ktb)
  have HLH := Lib.hid (And.intro hl (And.intro hh ne))
  have HX := Lib.hid (And.intro hx ht)
  generalize hbm : L.tb.getD x 0 = bm at *
  have HBM := Lib.hid hbm
  clear hbm
  have HSS := Lib.hid (And.intro hss hsp)
  have HF := Lib.hid bt
  have HBL := Lib.hid hb
  clear R hs h1 h3 hm hst ht1 ht2 hM hl0 ht hx hl hh ne hss hsp bt hb
  go_enter Tryz.func91, Tryz.ntmps91
  go_wp2
  go_quiet (fail)
  go_upto_region 9 with fail
  have SA : Hid (StU w d L w.heap.size lo hi ((w.alloc (box2 lo hi)).drewN nq) D L) := Lib.hid ((StU.start RR.out).no (Kp.drewN _))
  clear hl2 c2 ktb gtlt plt
  generalize ((w.alloc (box2 lo hi)).drewN nq) = A at *
  obtain ⟨B, hB⟩ : ∃ B, w.heap.size = B := ⟨_, rfl⟩
  rw [hB]
  rw [hB] at SA
  clear hB
  -- the first reference
  have c1 := SA.out.rep.c1
  obtain ⟨g', cap', hs, h1, h3, hcel, hz⟩ := SA.out.rep.cel (by omega)
  rw [HS.out] at hs
  cases hs
  obtain ⟨_, _, _, k3⟩ := hcel lo HLH.out.1
  have z3 := hz (lo * 4 + 3)
  have plt := heap_lt SA.out.rep.blk
  have glt := World.block_lt_of_cell? _ _ k3
  rw [HS.out] at c1
  have SB : Hid (StU w d L B lo hi (A.setCell ⟨g, lo * 4 + 3, none⟩ (.int .i64 (wrap64 (D.rf lo + 1)))) (D.inc lo) L) := Lib.hid (SA.out.step (SA.out.rep.rfset HS.out HLH.out.1 _) (scKp HS.out _ _ _) (fun _ e => .inr (.inr (.inl e))))
  clear hcel hz h1 h3
  generalize D.rf lo = r at *
  go_upto_region 10 with fail
  clear c1 k3 z3 plt glt SA
  generalize (A.setCell ⟨g, lo * 4 + 3, none⟩ (.int .i64 (wrap64 (r + 1)))) = A1 at *
  -- the second reference
  have c1 := SB.out.rep.c1
  obtain ⟨g', cap', hs, h1, h3, hcel, hz⟩ := SB.out.rep.cel (by show 0 < D.len; omega)
  rw [HS.out] at hs
  cases hs
  obtain ⟨_, _, _, k3⟩ := hcel hi HLH.out.2.1
  have z3 := hz (hi * 4 + 3)
  have eR : (D.inc lo).rf hi = D.rf hi := putN_other _ _ (fun e => HLH.out.2.2 e.symm)
  rw [eR] at k3
  have plt := heap_lt SB.out.rep.blk
  have glt := World.block_lt_of_cell? _ _ k3
  rw [HS.out] at c1
  have SC : Hid (StU w d L B lo hi (A1.setCell ⟨g, hi * 4 + 3, none⟩ (.int .i64 (wrap64 (D.rf hi + 1)))) ((D.inc lo).inc hi) L) := Lib.hid (by
    have h := SB.out.step (SB.out.rep.rfset HS.out HLH.out.2.1 (wrap64 (D.rf hi + 1))) (scKp HS.out _ _ _) (fun _ e => .inr (.inr (.inl e)))
    rw [← eR] at h ⊢
    exact h)
  clear hcel hz h1 h3 eR
  generalize D.rf hi = q at *
  go_upto_region 11 with fail
  clear c1 k3 z3 plt glt SB
  generalize (A1.setCell ⟨g, hi * 4 + 3, none⟩ (.int .i64 (wrap64 (q + 1)))) = A2 at *
  -- the box of the cell; how long the rows are
  have b0 := SC.out.b0
  have b1 := SC.out.b1
  have c1 := SC.out.rep.c1
  have c3 := SC.out.rep.c3
  have plt := heap_lt SC.out.rep.blk
  have blt := World.block_lt_of_cell? _ _ b0
  rw [HS.out] at c1
  rw [HSS.out.1] at c3
  simp only [List.length_nil] at c3
  go_upto_region 18 with fail
  have SD : Hid (StU w d L B lo hi (A2.alloc (.cells #[.int .i64 (x : Int), .int .i64 (lo : Int), .int .i64 (hi : Int), .int .i64 1] 131)) ((D.inc lo).inc hi) L) := Lib.hid (SC.out.no (Kp.alloc _))
  have BX : (A2.alloc (.cells #[.int .i64 (x : Int), .int .i64 (lo : Int), .int .i64 (hi : Int), .int .i64 1] 131)).heap[A2.heap.size]? = some (.cells #[.int .i64 (x : Int), .int .i64 (lo : Int), .int .i64 (hi : Int), .int .i64 1] 131 (0, 0)) := heap_alloc_new _ _
  clear b0 b1 c1 c3 plt blt
  generalize (A2.alloc (.cells #[.int .i64 (x : Int), .int .i64 (lo : Int), .int .i64 (hi : Int), .int .i64 1] 131)) = A3 at *
  generalize A2.heap.size = B2 at *
  clear SC
  have j0 : A3.cell? ⟨B2, 0, none⟩ = some (.int .i64 (x : Int)) := by simp [World.cell?, BX]
  have j1 : A3.cell? ⟨B2, 1, none⟩ = some (.int .i64 (lo : Int)) := by simp [World.cell?, BX]
  have j2 : A3.cell? ⟨B2, 2, none⟩ = some (.int .i64 (hi : Int)) := by simp [World.cell?, BX]
  have j3 : A3.cell? ⟨B2, 3, none⟩ = some (.int .i64 1) := by simp [World.cell?, BX]
  have c1 := SD.out.rep.c1
  have z1 := SD.out.rep.fz 1
  rw [HS.out] at c1
  have plt := heap_lt SD.out.rep.blk
  have blt := heap_lt BX
  have hdg : d ≠ g := fun e => SD.out.rep.row_d SD.out.rep.cells (by decide) (by rw [HS.out, e]; rfl)
  have oA := SD.out.rep.cells
  rw [HS.out] at oA
  have oA : A3.ownsRow 0 131 4 (.slice (some ⟨g, 0, none⟩) D.len cap) D.len ((D.inc lo).inc hi).cells := oA
  have hbl := HBL.out
  go_cut [] (fun y => ∃ L', StU w d L B lo hi y (((D.inc lo).inc hi).newC0 x D.len lo hi (D.len + 1) []) L' ∧ L'.st = L.st ∧ L'.tb = L.tb)
  case first =>
    go_region_law ((refine step_append_lies _ (by rfl) _ _ _ (by rfl) 0 131 i0 _ 4 32 Tryz.underlying111 hi0 hz0 hz1 hz2 rfl (by omega) _ D.len (((D.inc lo).inc hi).cells) (by rfl) ((oA.drew).alloc _) ⟨A3.heap.size, 0, none⟩ 1 1 [.int .i64 (x : Int), .int .i64 (lo : Int), .int .i64 (hi : Int), .int .i64 1] (by rfl) rfl (World.news_of_block (heap_alloc_new _ _)) (by simp [Value.oneCell']) (by omega) (by unfold maxLen; omega) (by omega) (by omega) (A3.heap.size + 1) (by simp) ?_; intro g' cap' w1 hown hgrow hat hlt; have q2 : w1.cell? ⟨d, 1, none⟩ = some (.slice (some ⟨g, 0, none⟩) D.len cap) := (hgrow.cell_far ⟨d, 1, none⟩ (by simp; omega) (fun e => hdg (Option.some.inj e))).trans ((World.cell?_alloc_lt _ _ _ plt).trans c1); have q3 : w1.frozen? ⟨d, 1, none⟩ = false := (hgrow.frozen_far ⟨d, 1, none⟩ (by simp; omega) (fun e => hdg (Option.some.inj e))).trans ((World.frozen?_alloc_old _ _ _ (by simp; omega)).trans z1)))
    all_goals
      go_wp2_with fail
      go_meet
      case rel => exact ⟨{ L with sc := .slice (some ⟨g', 0, none⟩) (D.len + 1) cap' }, by
        have h := SD.out.grow (x := x) (lo := lo) (hi := hi) HS.out (by first | exact (Kp.alloc _).trans_no Kp.drew | exact Kp.drew.no_trans (Kp.alloc _)) hown hgrow (hat.imp id (fun e => by omega))
        have e : ((D.inc lo).inc hi).spare = [] := HSS.out.2
        rw [e] at h
        exact h, rfl, rfl⟩
  case rest =>
    obtain ⟨L3, hst3, eST, eTB⟩ := hcut
    have HSE := Lib.hid hst3
    clear j0 j1 j2 j3 c1 z1 plt blt hdg oA hbl SD BX hst3
    have SX := HSE.out
    have c2 := SX.rep.c2
    obtain ⟨gt', ct', hst, _, _, ktb⟩ := SX.rep.tab_at HX.out.1
    have eT : L.st = .slice (some ⟨gt, 0, none⟩) D.order.length ct := HST.out.1
    have hst' := hst
    rw [eST, eT] at hst' c2
    cases hst'
    rw [eTB, HBM.out] at ktb
    have b0 := SX.b0
    have b1 := SX.b1
    obtain ⟨w3, hupd, SF⟩ := SX.tabset HX.out.1 ((lo : Int), (hi : Int)) HX.out.2 D.len
    rw [eTB, HBM.out] at hupd
    have up : (Instr.mapUpdate 115 (.map (some bm)) (.agg #[.int .i64 (lo : Int), .int .i64 (hi : Int)]) (.int .i64 (D.len : Int))).run Tryz.prog wc.drew = .ok () w3.drew := hupd 1
    have c4 := SF.rep.c4
    have z4 := SF.rep.fz 4
    have gtlt := World.block_lt_of_cell? _ _ ktb
    have plt := heap_lt SX.rep.blk
    have plt3 := heap_lt SF.rep.blk
    have blt := World.block_lt_of_cell? _ _ b0
    have bt : D.total ≤ 1000000000000 := HF.out
    have FIN : Hid (DRet d L w (((D.inc lo).inc hi).newC x D.len lo hi (D.len + 1) []) (w3.drew.setCell ⟨d, 4, none⟩ (.int .i64 ((D.total : Int) + 1)))) := Lib.hid (SF.fin (Kp.drewN 1))
    have c4' : w3.cell? ⟨d, 4, none⟩ = some (.int .i64 (D.total : Int)) := c4
    clear hst SF SX hupd HSE c4 eST eTB eT
    generalize D.total = tt at *
    go_wp2
    go_region
    go_wp2
    go_ret
    exact ⟨rfl, FIN.out⟩

end Go.Proofs.YtngbodmooddjbaaGreat

namespace Go.Proofs.YtngbodmooddjbaaGreat
open Go.RowKit

theorem Dg.ok.lt {D : Dg} {k : Nat} {P E : List Nat} {S : Nat → Bfn} {Fs : List Bfn} (h : D.Inv k P E S Fs) {i : Nat} (hi : D.ok i) : i < D.len := by
  rcases hi with x | x
  · have := h.two; omega
  · exact x.2.1
structure BdD (D : Dg) (E : List Nat) (Fs : List Bfn) : Prop where
  b : Fs.length * 3 ^ D.n ≤ 100000000000
  e : E.length ≤ 100000000000
theorem BdD.tot {D : Dg} {k : Nat} {P E : List Nat} {S : Nat → Bfn} {Fs : List Bfn} (h : D.Inv k P E S Fs) (b : BdD D E Fs) : D.total ≤ 100000000000 := Nat.le_trans h.total_le b.b
theorem BdD.len {D : Dg} {k : Nat} {P E : List Nat} {S : Nat → Bfn} {Fs : List Bfn} (h : D.Inv k P E S Fs) (b : BdD D E Fs) : D.len ≤ 100000000002 := Nat.le_trans h.len (by have := b.b; omega)

theorem Use_ok {w : World} {d : Nat} {D : Dg} {L : DLay} {k : Nat} {P E : List Nat} {S : Nat → Bfn} {Fs : List Bfn} (h : D.Inv k P E S Fs) (b : BdD D E Fs) (hk : k + 1 < D.n) (R : DRep w d D L) {lo hi : Nat} (ll : D.Low k P lo) (lh : D.Low k P hi)
    (hR : ∃ F, F ∈ Fs ∧ Rst F (iteB (D.vr (k + 1)) (S hi) (S lo))) :
    Calls Tryz.prog 91 #[ptr d, .int .i64 (D.vr (k + 1) : Int), .int .i64 (lo : Int), .int .i64 (hi : Int)] w fun e w' => ∃ (r : Nat) (D' : Dg) (S' : Nat → Bfn), e = .returned (.int .i64 (r : Int)) ∧ DRet d L w D' w' ∧ Dg.UseP D k P E S Fs lo hi D' r S' := by
  have ol := ll.o.lt h
  have oh := lh.o.lt h
  have vx : D.vr (k + 1) < D.order.length := h.vr_lt hk
  have bt := b.tot h
  have bl := b.len h
  have be := b.e
  have bb : D.total ≤ 1000000000000 ∧ E.length ≤ 100000000000 := ⟨by omega, be⟩
  by_cases e : lo = hi
  · subst e
    refine (use_same (D.vr (k + 1)) lo R ol).mono ?_
    rintro e w' ⟨rfl, r⟩
    exact ⟨lo, _, S, rfl, r, Dg.UseP.same h bb ll⟩
  · cases ht : D.tab (D.vr (k + 1)) ((lo : Int), (hi : Int)) with
    | some i =>
      have hi' : i < D.len := ((h.tb _ vx _ _).1 ht).1.2.1
      refine (use_found (D.vr (k + 1)) lo hi i R vx e ht hi').mono ?_
      rintro e w' ⟨rfl, r⟩
      exact ⟨i, _, S, rfl, r, Dg.UseP.found h bb hk ht⟩
    | none =>
      cases hs : D.spare.getLast? with
      | some f =>
        have m := Dg.MkOk.spare h hs
        have hsp : D.spare = D.spare.dropLast ++ [f] := by
          obtain ⟨ys, hy⟩ := List.getLast?_eq_some_iff.1 hs
          rw [hy, List.dropLast_concat]
        refine (use_free (D.vr (k + 1)) lo hi f D.spare.dropLast R vx ol oh e ht hsp (h.spr f (List.mem_of_getLast? hs)).2 (by omega)).mono ?_
        rintro e' w' ⟨rfl, r⟩
        exact ⟨f, _, _, rfl, r, Dg.UseP.made h bb hk m e ll lh ht hR⟩
      | none =>
        have hsp : D.spare = [] := by simpa using hs
        have m := Dg.MkOk.grow h hsp
        rw [hsp] at m
        refine (use_new (D.vr (k + 1)) lo hi R vx ol oh e ht hsp (by omega) (by omega)).mono ?_
        rintro e' w' ⟨rfl, r⟩
        exact ⟨D.len, _, _, rfl, r, Dg.UseP.made h bb hk m e ll lh ht hR⟩

/-! ### 'drop' -/
set_option maxHeartbeats 400000 in
theorem drop_const {w : World} {d : Nat} (i : Nat) (hi : i < 2) :
    Calls Tryz.prog 92 #[ptr d, .int .i64 (i : Int)] w fun e w' => e = .returned (.tuple #[]) ∧ w = w' := by
  have h : (i : Int) < 2 := by omega
  go_enter Tryz.func92, Tryz.ntmps92
  go_wp2
  refine bodyPost_ret (results_none rfl _ _ _) rfl ?_
  exact ⟨rfl, rfl⟩
theorem DRep.decset {w : World} {d : Nat} {D : Dg} {L : DLay} (R : DRep w d D L) {g cap i : Nat} (hs : L.sc = .slice (some ⟨g, 0, none⟩) D.len cap) (hi : i < D.len) : DRep (w.setCell ⟨g, i * 4 + 3, none⟩ (.int .i64 (D.rf i - 1))) d (D.dec i) L := R.rfset hs hi _
set_option maxRecDepth 100000 in
set_option maxHeartbeats 1000000 in
theorem drop_less {w : World} {d : Nat} {D : Dg} {L : DLay} (i : Nat) (R : DRep w d D L) (h2 : 2 ≤ i) (hi : i < D.len) (h1 : 2 ≤ D.rf i) (hb : D.rf i ≤ 1000000000000) :
    Calls Tryz.prog 92 #[ptr d, .int .i64 (i : Int)] w fun e w' => e = .returned (.tuple #[]) ∧ DRet d L w (D.dec i) w' := by
  have c1 := R.c1
  have plt := heap_lt R.blk
  obtain ⟨g, cap, hs, q1, q3, hcel, hz⟩ := R.cel (by omega)
  obtain ⟨k0, k1, k2, k3⟩ := hcel i hi
  have z3 := hz (i * 4 + 3)
  have FIN : Hid (∀ o, DRet d L w (D.dec i) ((w.setCell ⟨g, i * 4 + 3, none⟩ (.int .i64 (D.rf i - 1))).alloc o)) := Lib.hid (fun o =>
    ⟨L, (R.decset hs hi).no (Kp.alloc _), ((scKp hs w _ _).mono (fun _ _ e => .inr (.inr (.inl e)))).trans_no (Kp.alloc _), fun _ h => .inl h⟩)
  rw [hs] at c1
  have hm := maxLen_val
  have b2 : (i : Int) < D.len := by omega
  have b3 : D.len ≤ 9223372036854775807 := by omega
  have b4 : ¬ (i : Int) < 2 := by omega
  have glt := World.block_lt_of_cell? _ _ k3
  have e0 : (D.rf i - 1 == 0) = false := by simp; omega
  clear R hs hcel q1 q3 hm hi hz h2
  generalize D.len = n at *
  generalize D.rf i = r at *
  generalize D.nd i = x at *
  obtain ⟨x, lo, hi⟩ := x
  simp only at k0 k1 k2
  go_enter Tryz.func92, Tryz.ntmps92
  go_wp2
  go_end0
  exact ⟨rfl, FIN.out _⟩

end Go.Proofs.YtngbodmooddjbaaGreat

namespace Go.Proofs.YtngbodmooddjbaaGreat
open Go.RowKit

/-- The diagram on the way, and a block beside it. -/
structure StX (w : World) (d : Nat) (L : DLay) (B : Nat) (o : Obj) (y : World) (D' : Dg) (L' : DLay) : Prop where
  rep : DRep y d D' L'
  kp : Kp (L.at d) w y
  fr : Fresh (L.at d) (L'.at d) w
  box : y.heap[B]? = some o
  nb : ¬ L'.at d B
section
variable {w y z : World} {d B : Nat} {L L' : DLay} {o : Obj} {D' : Dg}
theorem StX.no (s : StX w d L B o y D' L') (k : Kp No y z) : StX w d L B o z D' L' := ⟨s.rep.no k, s.kp.trans_no k, s.fr, by rw [k.block B (heap_lt s.box) (fun h => h)]; exact s.box, s.nb⟩
theorem StX.step {D2 : Dg} {A : Nat → Prop} (s : StX w d L B o y D' L') (r : DRep z d D2 L') (k : Kp A y z) (hA : ∀ x, A x → L'.at d x) : StX w d L B o z D2 L' :=
  ⟨r, s.kp.trans s.fr (k.mono (fun x _ h => hA x h)), s.fr, by rw [k.block B (heap_lt s.box) (fun h => s.nb (hA _ h))]; exact s.box, s.nb⟩
theorem StX.stepL {D2 : Dg} {L2 : DLay} {A : Nat → Prop} (s : StX w d L B o y D' L') (r : DRep z d D2 L2) (k : Kp A y z) (hA : ∀ x, A x → L'.at d x) (hf : ∀ x, L2.at d x → L'.at d x ∨ y.heap.size ≤ x) : StX w d L B o z D2 L2 :=
  ⟨r, s.kp.trans s.fr (k.mono (fun x _ h => hA x h)), fun x hx => by
    rcases hf x hx with h | h
    · exact s.fr x h
    · exact .inr (Nat.le_trans s.kp.size h), by rw [k.block B (heap_lt s.box) (fun h => s.nb (hA _ h))]; exact s.box, fun h => by
    rcases hf B h with h | h
    · exact s.nb h
    · have := heap_lt s.box; omega⟩
theorem StX.ret (s : StX w d L B o y D' L') : DRet d L w D' y := ⟨L', s.rep, s.kp, s.fr⟩
theorem StX.dret {D2 : Dg} (s : StX w d L B o y D' L') (h : DRet d L' y D2 z) : ∃ L2, StX w d L B o z D2 L2 := by
  obtain ⟨L2, r, k, f⟩ := h
  exact ⟨L2, s.stepL r k (fun _ h => h) (fun x hx => f x hx)⟩
end
/-- A place is put among the spare ones. -/
theorem StX.spare {w A A' w1 : World} {d B i n g' cap' : Nat} {L L1 : DLay} {o : Obj} {D1 : Dg} {a : Option Addr} {c : Nat} (s : StX w d L B o A D1 L1) (hss : L1.ss = .slice a n c) (kA : Kp No A A')
    (hown : w1.ownsRow 0 3 1 (.slice (some ⟨g', 0, none⟩) (D1.spare.length + 1) cap') (D1.spare.length + 1) (D1.spare.map natV ++ [.int .i64 (i : Int)]))
    (hgrow : A'.grownBy w1 (Value.slice a n c).ownBlock) (hat : (Value.slice a n c).ownBlock = some g' ∨ A.heap.size ≤ g') :
    ∃ L2, StX w d L B o (w1.setCell ⟨d, 3, none⟩ (.slice (some ⟨g', 0, none⟩) (D1.spare.length + 1) cap')) { D1 with spare := D1.spare ++ [i] } L2 := by
  have kg : Kp (fun k => L1.ss.ownBlock = some k) A w1 := by rw [hss]; exact grown_no kA hgrow
  have r := s.rep.pushS (D' := { D1 with spare := D1.spare ++ [i] }) kg (v := .slice (some ⟨g', 0, none⟩) (D1.spare.length + 1) cap') (by simpa [natV] using hown) (fun k e h => by
    have hg : g' = k := by simpa [Value.ownBlock] using h
    rcases hat with hat | hat
    · exact s.rep.ne k e (by rw [hss, ← hg]; exact hat)
    · have := (s.rep.order.lt k e).2; omega) rfl rfl rfl rfl rfl rfl
  have kk : Kp (fun k => L1.ss.ownBlock = some k ∨ k = d) A (w1.setCell ⟨d, 3, none⟩ (.slice (some ⟨g', 0, none⟩) (D1.spare.length + 1) cap')) :=
    (kg.mono (fun _ _ h => .inl h)).trans (A' := fun k => L1.ss.ownBlock = some k ∨ k = d) (fun _ h => .inl h) ((Kp.setCell _ _).mono (fun _ _ e => .inr e))
  refine ⟨_, s.stepL r kk (fun k h => ?_) (fun k h => ?_)⟩
  · rcases h with h | h
    · exact .inr (.inr (.inr (.inr (.inl h))))
    · exact .inl h
  · rcases h with h | h | h | h | h | h
    · exact .inl (.inl h)
    · exact .inl (.inr (.inl h))
    · exact .inl (.inr (.inr (.inl h)))
    · exact .inl (.inr (.inr (.inr (.inl h))))
    · have hg : g' = k := by simpa [Value.ownBlock] using h
      rcases hat with hat | hat
      · exact .inl (.inr (.inr (.inr (.inr (.inl (by rw [hss, ← hg]; exact hat))))))
      · exact .inr (by omega)
    · exact .inl (.inr (.inr (.inr (.inr (.inr h)))))
/-- The table's entry is taken out. -/
theorem StX.tabdel {w X : World} {d B : Nat} {L L1 : DLay} {D1 : Dg} {o : Obj} (s : StX w d L B o X D1 L1) {x : Nat} (hx : x < D1.order.length) (p : Pair) :
    ∃ w3, (∀ n ty, (Builtin.delete_ #[115, 129] ty #[.map (some (L1.tb.getD x 0)), pairV p]).run Tryz.prog (X.drewN n) = .ok (.tuple #[]) (w3.drewN n)) ∧ StX w d L B o w3 { D1 with tab := updT D1.tab x p none } L1 := by
  obtain ⟨l, hM, hl⟩ := s.rep.maps x hx
  obtain ⟨w3, l', h1, h2, h4, h3, _⟩ := hM.del keyKids Tryz.underlying115 p
  refine ⟨w3, h1, s.step (s.rep.setM hx h3 h2 (fun q => ?_) (fun u hu => updT_other hu) rfl rfl rfl rfl rfl rfl) h3 (fun k e => .inr (.inr (.inr (.inr (.inr (by rw [e]; exact s.rep.tb_mem hx))))))⟩
  rw [h4, hl]
  exact (updT_same q).symm

def DropR (d : Nat) (L : DLay) (w : World) (D : Dg) (k : Nat) (P E : List Nat) (S : Nat → Bfn) (Fs : List Bfn) (e : Ending) (w' : World) : Prop :=
  e = .returned (.tuple #[]) ∧ ∃ D', DRet d L w D' w' ∧ D.DropP k P E S Fs D'

set_option maxRecDepth 100000 in
set_option maxHeartbeats 4000000 in
/-- 'drop' of the last reference, given what it does to the children. -/
theorem drop_last {w : World} {d : Nat} {D : Dg} {L : DLay} {k : Nat} {P E : List Nat} {S : Nat → Bfn} {Fs : List Bfn} {i : Nat} (h : D.Inv k P (i :: E) S Fs) (R : DRep w d D L) (hl : D.live i) (hP : i ∉ P) (h1 : D.rf i = 1) (ht : D.total ≤ 1000000000000) (hsp : D.spare.length ≤ 1000000000000)
    (C1 : ∀ (y : World) (L1 : DLay), DRep y d (D.free i) L1 → Calls Tryz.prog 92 #[ptr d, .int .i64 ((D.nd i).2.1 : Int)] y (DropR d L1 y (D.free i) k P ((D.nd i).2.2 :: E) S Fs))
    (C2 : ∀ (y : World) (L1 : DLay) (D1 : Dg), DRep y d D1 L1 → (D.free i).DropP k P ((D.nd i).2.2 :: E) S Fs D1 → Calls Tryz.prog 92 #[ptr d, .int .i64 ((D.nd i).2.2 : Int)] y (DropR d L1 y D1 k P E S Fs)) :
    Calls Tryz.prog 92 #[ptr d, .int .i64 (i : Int)] w (DropR d L w D k P E S Fs) := by
  obtain ⟨i0, hi0, hz0, hz1, hz2⟩ := info_parts info_int
  have m := h.nd i hl
  have hi : i < D.len := hl.2.1
  have c1 := R.c1
  have plt := heap_lt R.blk
  obtain ⟨g, cap, hs, q1, q3, hcel, hz⟩ := R.cel (by omega)
  obtain ⟨k0, k1, k2, k3⟩ := hcel i hi
  have z3 := hz (i * 4 + 3)
  have vx : (D.nd i).1.toNat < D.order.length := m.vn
  have ev : (D.nd i).1 = ((D.nd i).1.toNat : Int) := by have := m.v0; omega
  have htot : 1 ≤ D.total := by
    have := h.tot
    have := List.length_pos_of_mem (Dg.mem_liveL.2 hl)
    omega
  obtain ⟨gt, ct, hst, ht1, ht2, _⟩ := R.tab_at vx
  rw [hs] at c1
  rw [h1] at k3
  have SA : Hid (StX w d L w.heap.size (.cells #[.int .i64 ((D.nd i).1.toNat : Int), .int .i64 ((D.nd i).2.1 : Int), .int .i64 ((D.nd i).2.2 : Int), .int .i64 0] 131 (0, 0)) ((w.setCell ⟨g, i * 4 + 3, none⟩ (.int .i64 0)).alloc (.cells #[.int .i64 ((D.nd i).1.toNat : Int), .int .i64 ((D.nd i).2.1 : Int), .int .i64 ((D.nd i).2.2 : Int), .int .i64 0] 131)) { D with rf := putN D.rf i 0 } L) := Lib.hid (by
    have e : (w.setCell ⟨g, i * 4 + 3, none⟩ (.int .i64 0)).heap.size = w.heap.size := by simp [World.setCell]
    refine ⟨(R.rfset hs hi 0).no (Kp.alloc _), ((scKp hs w _ _).mono (fun _ _ e => .inr (.inr (.inl e)))).trans_no (Kp.alloc _), fun _ h => .inl h, ?_, fun hB => ?_⟩
    · rw [← e]
      exact heap_alloc_new _ _
    · have := R.lt _ hB; omega)
  have hm := maxLen_val
  have b2 : (i : Int) < D.len := by omega
  have b3 : D.len ≤ 9223372036854775807 := by omega
  have b4 : ¬ (i : Int) < 2 := by have := hl.1; omega
  have b5 : ((D.nd i).1.toNat : Int) < D.order.length := by omega
  have b6 : D.order.length ≤ 9223372036854775807 := by omega
  have glt := World.block_lt_of_cell? _ _ k3
  have HFR : Hid (∀ (y : World) (D1 D2 : Dg), (D.free i).DropP k P ((D.nd i).2.2 :: E) S Fs D1 → D1.DropP k P E S Fs D2 → D.DropP k P E S Fs D2) := Lib.hid (fun y D1 D2 p1 p2 => ((Dg.DropP.free h hl hP h1).trans p1).trans p2)
  have HST := Lib.hid hst
  have HVX := Lib.hid vx
  have HT := Lib.hid (And.intro htot (And.intro ht hsp))
  have HC1 := Lib.hid C1
  have HC2 := Lib.hid C2
  have EFR : Hid (∀ x lo hi, D.nd i = (x, lo, hi) → D.free i = { D with rf := putN D.rf i 0, tab := updT D.tab x.toNat ((lo : Int), (hi : Int)) none, spare := D.spare ++ [i], total := D.total - 1 }) := Lib.hid (fun x lo hi e => by unfold Dg.free; rw [e])
  rw [ev] at k0
  clear h R hl hP h1 ht hsp C1 C2 hs hcel hz q1 q3 hm hi vx htot m hst ht1 ht2 ev
  generalize hnd : D.nd i = x at *
  obtain ⟨x, lo, hi⟩ := x
  have EF := Lib.hid (EFR.out x lo hi rfl)
  clear hnd EFR
  simp only at k0 k1 k2 b5
  generalize x.toNat = v at *
  go_enter Tryz.func92, Tryz.ntmps92
  go_upto_region 4 with fail
  clear c1 k0 k1 k2 k3 z3 plt glt b2 b3 b4
  generalize ((w.setCell ⟨g, i * 4 + 3, none⟩ (.int .i64 0)).alloc (.cells #[.int .i64 (v : Int), .int .i64 (lo : Int), .int .i64 (hi : Int), .int .i64 0] 131)) = A1 at *
  obtain ⟨B, hB⟩ : ∃ B, w.heap.size = B := ⟨_, rfl⟩
  rw [hB] at SA ⊢
  clear hB
  -- the entry is taken out
  have c2 := SA.out.rep.c2
  obtain ⟨gt', ct', hst, _, _, ktb⟩ := SA.out.rep.tab_at HVX.out
  have hst' := hst
  rw [HST.out] at hst' c2
  cases hst'
  have j0 : A1.cell? ⟨B, 0, none⟩ = some (.int .i64 (v : Int)) := by simp [World.cell?, SA.out.box]
  have j1 : A1.cell? ⟨B, 1, none⟩ = some (.int .i64 (lo : Int)) := by simp [World.cell?, SA.out.box]
  have j2 : A1.cell? ⟨B, 2, none⟩ = some (.int .i64 (hi : Int)) := by simp [World.cell?, SA.out.box]
  obtain ⟨w3, hdel, SB⟩ := SA.out.tabdel HVX.out ((lo : Int), (hi : Int))
  have HSB := Lib.hid SB
  have plt := heap_lt SA.out.rep.blk
  have gtlt := World.block_lt_of_cell? _ _ ktb
  have blt := World.block_lt_of_cell? _ _ j0
  generalize L.tb.getD v 0 = bm at *
  have dl : ∀ ty, (Builtin.delete_ #[115, 129] ty #[.map (some bm), .agg #[.int .i64 (lo : Int), .int .i64 (hi : Int)]]).run Tryz.prog A1.drew = .ok (.tuple #[]) w3.drew := hdel 1
  clear hst hdel SB SA
  have SC := Lib.hid (HSB.out.no (Kp.drew))
  go_region
  clear dl HSB j0 j1 j2 ktb c2 plt gtlt blt
  generalize w3.drew = W at *
  -- the place is spare
  have c3 := SC.out.rep.c3
  have z3 := SC.out.rep.fz 3
  obtain ⟨sa, cs, hss, _⟩ := ownsRow_len SC.out.rep.spare
  have HSS := Lib.hid hss
  have oS := SC.out.rep.spare
  rw [hss] at c3 oS
  have oS : W.ownsRow 0 3 1 (.slice sa D.spare.length cs) D.spare.length (D.spare.map natV) := oS
  have c3 : W.cell? ⟨d, 3, none⟩ = some (.slice sa D.spare.length cs) := c3
  have plt := heap_lt SC.out.rep.blk
  have hds : (Value.slice sa D.spare.length cs).ownBlock ≠ some d := SC.out.rep.row_d oS (by decide)
  have blt := heap_lt SC.out.box
  have hsp := HT.out.2.2
  clear hss
  go_upto_region 6 with (at_builtin; refine wpList_append_lies _ rfl _ _ _ rfl 0 3 i0 _ 1 8 Tryz.underlying24 hi0 hz0 hz1 hz2 rfl (by omega) (.slice sa D.spare.length cs) D.spare.length (D.spare.map natV) rfl (oS.alloc _) ⟨W.heap.size, 0, none⟩ 1 1 [.int .i64 (i : Int)] rfl rfl (World.news_of_block (heap_alloc_new _ _)) (by simp [Value.oneCell']) (by omega) (by unfold maxLen; omega) (by omega) (by omega) (W.heap.size + 1) (by simp) ?_; intro g' cap' w4 hown hgrow hat hlt; have q2 : w4.cell? ⟨d, 3, none⟩ = some (.slice sa D.spare.length cs) := (hgrow.cell_far ⟨d, 3, none⟩ (by simp; omega) (fun e => hds e.symm)).trans ((World.cell?_alloc_lt _ _ _ plt).trans c3); have q3 : w4.frozen? ⟨d, 3, none⟩ = false := (hgrow.frozen_far ⟨d, 3, none⟩ (by simp; omega) (fun e => hds e.symm)).trans ((World.frozen?_alloc_old _ _ _ (by simp; omega)).trans z3))
  obtain ⟨L2, sd⟩ := SC.out.spare (i := i) HSS.out (Kp.alloc _) hown hgrow (hat.imp id (fun e => by omega))
  have SD := Lib.hid sd
  clear sd hown hgrow hat hlt q2 q3 c3 z3 oS plt hds blt SC HSS hsp
  generalize (w4.setCell ⟨d, 3, none⟩ (.slice (some ⟨g', 0, none⟩) (D.spare.length + 1) cap')) = W5 at *
  -- the total
  have c4 := SD.out.rep.c4
  have z4 := SD.out.rep.fz 4
  have c4 : W5.cell? ⟨d, 4, none⟩ = some (.int .i64 (D.total : Int)) := c4
  have SE : Hid (StX w d L B (.cells #[.int .i64 (v : Int), .int .i64 (lo : Int), .int .i64 (hi : Int), .int .i64 0] 131 (0, 0)) (W5.setCell ⟨d, 4, none⟩ (.int .i64 ((D.total : Int) - 1))) (D.free i) L2) := Lib.hid (by
    have r := SD.out.step (SD.out.rep.putT (D' := D.free i) (D.total - 1) (by rw [EF.out]) (by rw [EF.out]) (by rw [EF.out]) (by rw [EF.out]) (by rw [EF.out]) (by rw [EF.out]) (by rw [EF.out])) (Kp.setCell _ _) (fun _ e => .inl e)
    rw [show ((D.total - 1 : Nat) : Int) = (D.total : Int) - 1 by have := HT.out.1; omega] at r
    exact r)
  have plt := heap_lt SD.out.rep.blk
  have t1 := HT.out.1
  have t2 := HT.out.2.1
  go_upto_region 7 with fail
  clear c4 z4 plt t1 t2 SD
  generalize (W5.setCell ⟨d, 4, none⟩ (.int .i64 ((D.total : Int) - 1))) = W6 at *
  -- the children
  have j1 : W6.cell? ⟨B, 1, none⟩ = some (.int .i64 (lo : Int)) := by simp [World.cell?, SE.out.box]
  have C1 := Lib.hid (HC1.out W6 L2 SE.out.rep)
  go_upto_region 8 with (first | (go_at_call 92; refine C1.out.mono ?_; rintro e w7 ⟨rfl, D1, r1, p1⟩))
  obtain ⟨L3, sf⟩ := SE.out.dret r1
  have j2 : w7.cell? ⟨B, 2, none⟩ = some (.int .i64 (hi : Int)) := by simp [World.cell?, sf.box]
  have SF := Lib.hid sf
  have P1 := Lib.hid p1
  have C2 := Lib.hid (HC2.out w7 L3 D1 sf.rep p1)
  clear sf p1 r1 j1 SE C1
  go_wp2_with (first | (go_at_call 92; refine C2.out.mono ?_; rintro e w8 ⟨rfl, D2, r2, p2⟩))
  obtain ⟨L4, sg⟩ := SF.out.dret r2
  have FIN := Lib.hid (HFR.out w D1 D2 P1.out p2)
  have RT := Lib.hid sg.ret
  clear r2 p2 sg j2
  go_wp2
  go_end0
  exact ⟨rfl, D2, RT.out, FIN.out⟩

/-- The contract of 'drop'. -/
theorem Drop_ok : ∀ (m : Nat) {w : World} {d : Nat} {D : Dg} {L : DLay} {k : Nat} {P E : List Nat} {S : Nat → Bfn} {Fs : List Bfn} {i : Nat}, D.liveL.length ≤ m → D.Inv k P (i :: E) S Fs → Fs.length * 3 ^ D.n ≤ 100000000000 → E.length + m ≤ 100000000000 → DRep w d D L → i ∉ P → (D.live i → k ≤ D.dep k P i) →
    Calls Tryz.prog 92 #[ptr d, .int .i64 (i : Int)] w (DropR d L w D k P E S Fs) := by
  intro m
  induction m with
  | zero =>
    intro w d D L k P E S Fs i hm h hb he R hP hd
    have hi : i < 2 := by
      rcases h.eok i (.head _) with x | x
      · exact x
      · have := List.length_pos_of_mem (Dg.mem_liveL.2 x); omega
    refine (drop_const i hi).mono ?_
    rintro e w' ⟨rfl, rfl⟩
    exact ⟨rfl, D, ⟨L, R, Kp.refl _ _, fun _ h => .inl h⟩, Dg.DropP.const h hi⟩
  | succ m ih =>
    intro w d D L k P E S Fs i hm h hb he R hP hd
    rcases h.eok i (.head _) with hi | hl
    · refine (drop_const i hi).mono ?_
      rintro e w' ⟨rfl, rfl⟩
      exact ⟨rfl, D, ⟨L, R, Kp.refl _ _, fun _ h => .inl h⟩, Dg.DropP.const h hi⟩
    · have ht := h.total_le
      have h1 := h.rf_pos hl
      have h2 := (h.rf_le hl).2
      rw [List.length_cons] at h2
      by_cases e : D.rf i = 1
      · have hsl : D.spare.length ≤ 1000000000000 := by
          have := Mgr.nodup_length D.spare (List.range D.len) h.spn (fun x hx => List.mem_range.2 (h.spr x hx).2)
          rw [List.length_range] at this
          have := h.len
          omega
        have hl1 : (D.free i).liveL.length ≤ m := by
          have := (Dg.free_liveL hl).length_eq
          rw [List.length_cons] at this
          omega
        have f1 := h.free hl hP e
        obtain ⟨⟨a1, a2⟩, a3, a4⟩ := h.kid_low hl hP (hd hl)
        refine drop_last h R hl hP e (by omega) hsl (fun y L1 R1 => ?_) (fun y L1 D1 R1 p1 => ?_)
        · exact ih hl1 f1 hb (by rw [List.length_cons]; omega) R1 a1 (fun _ => a2)
        · have hn : D1.n = D.n := by unfold Dg.n; rw [p1.ord]; rfl
          have hl2 : D1.liveL.length ≤ m := by
            have := Mgr.nodup_length D1.liveL (D.free i).liveL D1.liveL_nodup (fun x hx => Dg.mem_liveL.2 ((p1.ok x (.inr (Dg.mem_liveL.1 hx))).live (Dg.mem_liveL.1 hx).1))
            omega
          exact ih hl2 p1.inv (by rw [hn]; exact hb) (by omega) R1 a3 (fun _ => by rw [p1.dep]; exact a4)
      · refine (drop_less i R hl.1 hl.2.1 (by omega) (by omega)).mono ?_
        rintro e' w' ⟨rfl, r⟩
        exact ⟨rfl, _, r, Dg.DropP.less h hl e⟩

end Go.Proofs.YtngbodmooddjbaaGreat
